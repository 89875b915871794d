-- by this session's xprint.py over the kit's print
import Derived.Test.YtbepmlgpapdnpaaPX0
import Derived.Test.YtbepmlgpapdnpaaPXFroomy
import Derived.Test.YtbepmlgpapdnpaaPXFgroww
import Derived.Test.YtbepmlgpapdnpaaPXFrdstate
import Derived.Test.YtbepmlgpapdnpaaPXFtake
import Derived.Test.YtbepmlgpapdnpaaPXFreadernew
import Derived.Test.YtbepmlgpapdnpaaPXFspillwaylaw04fixed
import Derived.Test.YtbepmlgpapdnpaaPXFrefget
import Derived.Test.YtbepmlgpapdnpaaPXFjoinedn
import Derived.Test.YtbepmlgpapdnpaaPXFnilreader
import Derived.Test.YtbepmlgpapdnpaaPXFplstate
import Derived.Test.YtbepmlgpapdnpaaPXFplayrest
namespace Go.Proofs.Ytbepmlgpapdnpaa.PX
open Go.RowKit Go.Proofs.YtbepmlgpapdnpaaW.PrintWords Go.Proofs.YtbepmlgpapdnpaaW.PrintLast Go.Proofs.YtbepmlgpapdnpaaW.PrintMore
attribute [local go_sem] max2_int min2_int max_two min_two max_three min_three max_four min_four   -- for this text's walks alone
set_option linter.unusedVariables false
set_option linter.unusedSimpArgs false

/-! ### spillwaylaw04_WireKeeps: function 7 -/
/-- A row of the call's own: block, address, length, room, bytes. -/
structure OBK (w : World) (lo hi : Nat) (g n c : Nat) (xs : List Int) : Prop where
  r : Kd.R (Kd.int .u8) 5 w lo (fun _ => True) (.slice (some ⟨g, 0, none⟩) n c) xs
  plo : lo ≤ g
  phi : g < hi
  psz : hi ≤ w.heap.size
  pn : n = xs.length
  pc : xs.length ≤ c
theorem OBK.C {w : World} {lo hi g n c : Nat} {xs : List Int} (h : OBK w lo hi g n c xs) : Kd.C (Kd.int .u8) w (some ⟨g, 0, none⟩) xs.length xs := by
  have hr := h.r
  rw [h.pn] at hr
  exact Kd.R_reads_row hr h.pc
theorem OBK.below {w w' : World} {lo hi g n c : Nat} {xs : List Int} (h : OBK w lo hi g n c xs) (hb : Below w.heap.size w w') : OBK w' lo hi g n c xs := ⟨Kd.R_below h.r hb, h.plo, h.phi, Nat.le_trans h.psz hb.size, h.pn, h.pc⟩
theorem OBK.grown {w w' : World} {lo hi g n c k : Nat} {xs : List Int} (h : OBK w lo hi g n c xs) (hg : w.grownBy w' (some k)) (hne : g ≠ k) : OBK w' lo hi g n c xs :=
  ⟨Kd.R_grown2 h.r rfl hg (fun j e1 e2 => hne (by have e3 : some j = some g := e2; injection e1 with e1; injection e3 with e3; omega)), h.plo, h.phi, Nat.le_trans h.psz hg.size, h.pn, h.pc⟩
theorem OBK.of {w : World} {lo : Nat} {v : Value} {xs : List Int} (h : Kd.R (Kd.int .u8) 5 w lo (fun _ => True) v xs) (hp : 0 < xs.length) : ∃ g c, v = .slice (some ⟨g, 0, none⟩) xs.length c ∧ OBK w lo w.heap.size g xs.length c xs := by
  obtain ⟨A, c, rfl, hc⟩ := own_slice' h
  obtain ⟨g, rfl, h1, h2⟩ := R_addr h hp
  exact ⟨g, c, rfl, h, h1, h2, Nat.le_refl _, rfl, hc⟩
theorem R_addr1K {w : World} {e base n c g : Nat} {ok : Nat → Prop} {xs : List Int} (h : (Kd.int .u8).R e w base ok (.slice (some ⟨g, 0, none⟩) n c) xs) (hn : 0 < n) : base ≤ g ∧ g < w.heap.size := by
  obtain ⟨k, e1, h1, h2⟩ := R_addr h hn
  injection e1 with e1
  injection e1 with e1
  subst e1
  exact ⟨h1, h2⟩
theorem OBK.cells {w : World} {lo hi g n c : Nat} {xs : List Int} (h : OBK w lo hi g n c xs) : ∃ cur, w.heap[g]? = some (.cells cur 5 (0, 0)) := by
  obtain ⟨inner, ho⟩ := Kd.R_own h.r
  rcases ho.2 with ⟨h1, _⟩ | ⟨k, cap, cur, h1, _, h2, _⟩
  · cases h1
  · injection h1 with ha _ _
    injection ha with ha
    injection ha with ha
    subst ha
    exact ⟨cur, h2⟩
theorem OBK.put {w : World} {lo hi g n c : Nat} {xs : List Int} (h : OBK w lo hi g n c xs) (i : Nat) (x : Int) : OBK (w.setCell ⟨g, i, none⟩ (.int .u8 x)) lo hi g n c (xs.set i x) ∧ w.grownBy (w.setCell ⟨g, i, none⟩ (.int .u8 x)) (some g) := by
  obtain ⟨h1, h2⟩ := Kd.R_putg h.r (i : Int) x
  rw [Int.toNat_natCast] at h1 h2
  exact ⟨⟨h1, h.plo, h.phi, Nat.le_trans h.psz h2.size, by rw [List.length_set]; exact h.pn, by rw [List.length_set]; exact h.pc⟩, h2⟩
theorem OBK.at_ {w : World} {lo hi g n c : Nat} {xs : List Int} (h : OBK w lo hi g n c xs) (i : Nat) (hi : i < n) : w.cell? ⟨g, i, none⟩ = some (.int .u8 (rd xs i)) ∧ w.frozen? ⟨g, i, none⟩ = false := by
  obtain ⟨ad, e, hc⟩ := Kd.at_int h.C (i : Int) (by omega) (by have := h.pn; omega)
  cases e
  rw [Int.toNat_natCast, add_plain] at hc
  obtain ⟨cur, hcur⟩ := h.cells
  exact ⟨hc, blk_frozen hcur i⟩
theorem below_grownK {base : Nat} {w W W' : World} {g : Nat} (hb : Below base w W) (hg : W.grownBy W' (some g)) (h0 : base ≤ W.heap.size) (h : base ≤ g) : Below base w W' :=
  ⟨hg.os.trans hb.os, hg.tape.trans hb.tape, hg.output.trans hb.output, Nat.le_trans hb.size hg.size, fun k hk => (hg.block k (Nat.lt_of_lt_of_le hk h0) (fun e => by injection e with e; omega)).trans (hb.block k hk)⟩
theorem rd_inTK {l : List S49} {i : Nat} (h : i < l.length) : rd_T49 l i ∈ l := by
  rw [rd_T49, Int.toNat_natCast]; simp [List.getD, List.getElem?_eq_getElem h]
theorem pick_blockK {w : World} {e base n c : Nat} {ok : Nat → Prop} {A : Option Addr} {xs : List Int} (h : (Kd.int .u8).R e w base ok (.slice A n c) xs) (hn : n = xs.length) (B : Nat) : ∃ b2, (∀ ad, A = some ad → 0 < xs.length → ad.block = b2) ∧ (base ≤ b2 ∧ b2 < w.heap.size ∨ b2 = B) := by
  by_cases h0 : 0 < xs.length
  · obtain ⟨g, rfl, h1, h2⟩ := R_addr h (by omega)
    exact ⟨g, fun ad e _ => by injection e with e; subst e; rfl, .inl ⟨h1, h2⟩⟩
  · exact ⟨B, fun _ _ h => absurd h h0, .inr rfl⟩
theorem RF.mk1 {w : World} {q b2 : Nat} {A : Option Addr} {c : Nat} {zs : List Int} (hq : w.heap[q]? = some (.cells #[.slice A zs.length c, .int .i64 0] 47 (0, 0))) (hc : zs.length ≤ c) (hr : (Kd.int .u8).C w A zs.length zs) (ha : ∀ ad, A = some ad → 0 < zs.length → ad.block = b2) (hne : b2 ≠ q) (hb : ∀ x ∈ zs, 0 ≤ x ∧ x < 256) : RF w q b2 A c zs 0 := ⟨hq, hc, hr, ha, hne, hb⟩
theorem OBK.len_set {xs : List Int} {i : Nat} {x : Int} : (xs.set i x).length = xs.length := List.length_set
theorem RD.grownK {w w' : World} {g h q : Nat} {A : Option Addr} {c : Nat} {bs : List Int} {at_ : Nat} {bad : Int} (r : RD w g h A c bs at_ bad) (hg : g ≠ q) (hh : h ≠ q) (hA : ∀ ad, A = some ad → 0 < bs.length → ad.block ≠ q) (hk : w.grownBy w' (some q)) : RD w' g h A c bs at_ bad :=
  r.keep_but hg hh hA (fun i hi hne => hk.block i hi (fun e => hne (by injection e with e)))
def spillwaylaw04_WireKeeps.f (l0 : List Int) (l1 : List S49) : Option Bool := if l0.length + 12 < 140737488355328 ∧ (∀ x ∈ l0, 0 ≤ x ∧ x < 256) ∧ (∀ x ∈ l1, -9223372036854775808 ≤ x.f1 ∧ x.f1 ≤ 9223372036854775807) then some true else none
set_option maxHeartbeats 8000000 in
set_option maxRecDepth 100000 in
theorem spillwaylaw04_WireKeeps.calls (A0 : Option Addr) (c0 : Nat) (l0 : List Int) (A1 : Option Addr) (c1 : Nat) (l1 : List (S49)) (r : Bool) (w : World) (hr0 : Kd.C (Kd.int .u8) w A0 l0.length l0) (hc0 : l0.length ≤ c0) (hr1 : Kd.C k49 w A1 l1.length l1) (hc1 : l1.length ≤ c1) (h : spillwaylaw04_WireKeeps.f l0 l1 = some r) :
    Calls Try.prog 7 #[.slice A0 l0.length c0, .slice A1 l1.length c1] w fun e w' => e = .returned (.bool r) ∧ Below w.heap.size w w' := by
  unfold spillwaylaw04_WireKeeps.f at h
  split at h
  case isFalse => cases h
  rename_i hh
  obtain ⟨hL, hV0, hV1⟩ := hh
  obtain rfl := Option.some.inj h
  clear h
  have hpn := fun (W : World) (p : Option Addr) => ptr_nil W p
  have HR0 := Aside0.mk hr0
  have HR1 := Aside0.mk hr1
  have HC0 := Aside0.mk hc0
  have HV0 := Aside0.mk hV0
  have HV1 := Aside0.mk hV1
  have HL := Aside0.mk hL
  clear hr0 hr1 hc0 hc1 hV0 hV1 hL
  go_enter Try.func7, Try.ntmps7
  go_wp2_with fail
  refine (roomy_calls w A0 c0 l0 HR0.out HC0.out HL.out).mono ?_
  rintro e w1 ⟨g1, c1, rfl, hR1, hc1, hB1⟩
  have hz := R_addr1K hR1 (by omega)
  have O1 := Aside0.mk (OBK.mk (lo := w.heap.size) (hi := w1.heap.size) (g := g1) (n := l0.length + 12) (c := c1) (xs := l0 ++ marks) hR1 hz.1 hz.2 (Nat.le_refl _) (by simp [marks]) (by simp [marks]; omega))
  have B1 := Aside0.mk hB1
  have C1 := Aside0.mk hc1
  have Z1 := Aside0.mk hz
  clear hR1 hB1 hc1 hz
  go_wp2_with fail
  refine (readerNew_n w1 (some ⟨g1, 0, none⟩) l0.length c1 l0 rfl (C_pre (m := marks) O1.out.C) (by have := C1.out; omega) (by have := HL.out; omega) HV0.out).mono ?_
  rintro e w2 ⟨g, h, Ab, cb, rfl, hR2, hB2, hg2, hh2, hA2⟩
  have B2 := Aside0.mk (below_two B1.out hB2)
  have R2 := Aside0.mk hR2
  replace O1 := Aside0.mk (O1.out.below hB2)
  have S2 := Aside0.mk (And.intro hg2 (And.intro hh2 hA2))
  have T2 := Aside0.mk (And.intro (blk_lt hR2.hg) (And.intro (blk_lt hR2.hh) (And.intro (C_blk_lt hR2.hr) hB2.size)))
  clear hR2 hB2 hg2 hh2 hA2 B1
  go_wp2_with fail
  refine (spillwaylaw04_fixed.calls true w2 rfl).mono ?_
  rintro e w3 ⟨rfl, hB3⟩
  replace R2 := Aside0.mk (R2.out.keep (fun i hi => hB3.block i hi))
  replace O1 := Aside0.mk (O1.out.below hB3)
  have B3 := Aside0.mk (below_two B2.out hB3)
  have Z3 := Aside0.mk hB3.size
  clear hB3 B2
  obtain ⟨M, hM⟩ : ∃ M, M = l0 ++ marks := ⟨_, rfl⟩
  rw [← hM] at O1
  obtain ⟨N, hN⟩ : ∃ N, N = l0.length + 12 := ⟨_, rfl⟩
  have hNl := Aside0.mk hN
  have hNb : N ≤ 140737488355328 := by have := HL.out; omega
  rw [← hN] at O1 ⊢
  have GX := Aside0.mk (World.grownBy.refl w3 (some g1))
  clear hM hN
  go_wp2_with fail
  go_loopw [29] (fun iv wq => ∃ (i : Nat) (ys : List Int), iv = .int .i64 i ∧ i ≤ N ∧ Aside0 (OBK wq w.heap.size w1.heap.size g1 N c1 ys) ∧ Aside0 (w3.grownBy wq (some g1))) (fun iv _ => N - (intOf iv).toNat)
  case atStart => exact ⟨0, M, rfl, by omega, O1, GX⟩
  case round =>
    clear O1 GX
    obtain ⟨i, ys, rfl, hi, O1, hG⟩ := hrel
    by_cases hlt : i < N
    · obtain ⟨hcell, hfr⟩ := O1.out.at_ i hlt
      have OP := Aside0.mk (fun x => (O1.out.put i x).1)
      have OG := Aside0.mk (fun x => hG.out.trans (O1.out.put i x).2)
      generalize rd ys i = xv at hcell
      clear O1 hG
      go_wp2_with fail
      go_roundw
      case rel => exact ⟨i + 1, _, by go_num, by omega, ⟨OP.out _⟩, ⟨OG.out _⟩⟩
      case measure => simp [intOf]; omega
    · obtain rfl : i = N := by omega
      replace R2 := Aside0.mk (RD.grownK R2.out (by have := S2.out.1; have := Z1.out.2; omega) (by have := S2.out.2.1; have := Z1.out.2; omega) (fun ad e hn => by have := S2.out.2.2 ad e hn; have := Z1.out.2; omega) hG.out)
      have B4 := Aside0.mk (below_grownK B3.out hG.out B3.out.size Z1.out.1)
      have hyl := Aside0.mk O1.out.pn
      have hsz := Aside0.mk hG.out.size
      clear hG hlt hi B3
      have D0 := Aside0.mk (show g1 < wr.heap.size ∧ g < wr.heap.size ∧ h < wr.heap.size by exact ⟨by have := O1.out.phi; have := O1.out.psz; omega, blk_lt R2.out.hg, blk_lt R2.out.hh⟩)
      go_wp2_with fail
      refine (joined_n (some ⟨g1, 0, none⟩) _ c1 ys none 0 0 [] _ hyl.out rfl O1.out.C O1.out.pc (C_nil0 _) (by decide) (by have := hyl.out; have := hNl.out; have := HL.out; simp; omega)).mono ?_
      rintro e w5 ⟨v5, rfl, hR5, hB5⟩
      rw [List.append_nil] at hR5
      obtain ⟨g5, c5, rfl, O5⟩ := OBK.of hR5 (by have := hyl.out; have := hNl.out; omega)
      replace R2 := Aside0.mk (R2.out.keep (fun i hi => hB5.block i hi))
      replace O1 := Aside0.mk (O1.out.below hB5)
      have B5 := Aside0.mk (below_two B4.out hB5)
      have Z5 := Aside0.mk hB5.size
      replace O5 := Aside0.mk O5
      clear hR5 hB5 B4
      go_wp2_with fail
      refine (joined_n A0 l0.length c0 l0 none 0 0 [] _ rfl rfl (Kd.C_below HR0.out B5.out) HC0.out (C_nil0 _) (by decide) (by have := HL.out; simp; omega)).mono ?_
      rintro e w6 ⟨v6, rfl, hR6, hB6⟩
      rw [List.append_nil] at hR6
      obtain ⟨A6, c6, rfl, hc6⟩ := own_slice' hR6
      have AL6 := below_alloc (Below.refl w6.heap.size w6) (Obj.cells #[.slice A6 l0.length c6, .int .i64 0] 47)
      have hB6' := below_two hB6 AL6
      obtain ⟨b2, hb2, hb2r⟩ := pick_blockK hR6 rfl (w6.heap.size + 7)
      have P1 : PL (w6.alloc (Obj.cells #[.slice A6 l0.length c6, .int .i64 0] 47)) g h w6.heap.size b2 Ab cb l0 0 0 := by
        obtain ⟨s1, s2, s3⟩ := S2.out
        obtain ⟨d1, d2, d3⟩ := D0.out
        have z5 := Z5.out
        have z6 := hB6.size
        refine ⟨R2.out.keep (fun i hi => hB6'.block i hi), ⟨A6, c6, RF.mk1 (blk_new w6 _) hc6 ?_ hb2 (by omega) HV0.out⟩, by omega, by omega, fun ad e hn => ?_, by omega⟩
        · exact Kd.C_below (Kd.R_reads_row hR6 hc6) AL6
        · have := C_blk_lt R2.out.hr ad e hn
          omega
      have D1 := Aside0.mk (show g1 ≠ g ∧ g1 ≠ h ∧ g1 ≠ w6.heap.size ∧ g5 ≠ g ∧ g5 ≠ h ∧ g5 ≠ w6.heap.size ∧ w.heap.size ≤ g ∧ w.heap.size ≤ h ∧ w.heap.size ≤ w6.heap.size by
        obtain ⟨s1, s2, s3⟩ := S2.out
        obtain ⟨d1, d2, d3⟩ := D0.out
        have z5 := Z5.out
        have z6 := hB6.size
        have p1 := O5.out.plo
        have p2 := O5.out.phi
        have p3 := Z1.out
        omega)
      have B6 := Aside0.mk (below_two B5.out hB6')
      have CW := Aside0.mk (Kd.C_below O1.out.C hB6')
      have CT := Aside0.mk (Kd.C_below O5.out.C hB6')
      have hcW := Aside0.mk O1.out.pc
      have hcT := Aside0.mk O5.out.pc
      replace P1 := Aside0.mk P1
      obtain ⟨x, hx⟩ : ∃ x, x = w6.heap.size := ⟨_, rfl⟩
      rw [← hx] at P1 D1
      clear hb2 hb2r hR6 hB6 hB6' AL6 hc6 R2 B5 O1 O5 S2 Z1 D0 Z5 T2 Z3
      go_wp2_with fail
      rw [← hx]
      replace hx := Aside0.mk hx
      have hlen1 : l1.length ≤ 9223372036854775807 := HR1.out.2.1
      go_loopw [47] (fun iv wq => ∃ (i a1 : Nat) (d1 : Int), iv = .int .i64 i ∧ i ≤ l1.length ∧ Aside0 (PL wq g h x b2 Ab cb l0 a1 d1) ∧ Aside0 ((Kd.int .u8).C wq (some ⟨g1, 0, none⟩) ys.length ys) ∧ Aside0 ((Kd.int .u8).C wq (some ⟨g5, 0, none⟩) ys.length ys) ∧ Aside0 (Below w.heap.size w wq)) (fun iv _ => l1.length - (intOf iv).toNat)
      case atStart => exact ⟨0, 0, 0, rfl, by omega, P1, CW, CT, B6⟩
      case round =>
        clear P1 CW CT B6
        obtain ⟨i, a1, d1, rfl, hi, P1, CW, CT, BB⟩ := hrel
        by_cases hlt : i < l1.length
        · obtain ⟨ad, rfl, hcell0, hcell1⟩ := at_T49 (Kd.C_below HR1.out BB.out) (i : Int) (by omega) (by omega)
          rw [Int.toNat_natCast] at hcell0 hcell1
          have hv := HV1.out _ (rd_inTK hlt)
          generalize rd_T49 l1 i = o at hcell0 hcell1 hv
          obtain ⟨kd, ms⟩ := o
          simp only at hcell0 hcell1 hv
          have HV := Aside0.mk hv
          clear hv
          have BX := below_alloc (Below.refl wr.heap.size wr) (Obj.cells #[.int .i64 kd, .int .i64 ms] 49)
          have BBX := Aside0.mk (below_two BB.out BX)
          replace P1 := Aside0.mk (P1.out.keep BX)
          replace CW := Aside0.mk (Kd.C_below CW.out BX)
          replace CT := Aside0.mk (Kd.C_below CT.out BX)
          clear BB BX
          go_wp2_with fail
          refine (play_calls _ g h x b2 Ab cb l0 a1 d1 kd ms P1.out HV.out.1 HV.out.2).mono ?_
          rintro e w7 ⟨rfl, ⟨a3, d3, hP⟩, hK⟩
          replace P1 := Aside0.mk hP
          replace CW := Aside0.mk (C_block_same CW.out (fun ad e hn => by cases e; exact hK.block _ (C_blk_lt CW.out _ rfl hn) D1.out.1 D1.out.2.1 D1.out.2.2.1))
          replace CT := Aside0.mk (C_block_same CT.out (fun ad e hn => by cases e; exact hK.block _ (C_blk_lt CT.out _ rfl hn) D1.out.2.2.2.1 D1.out.2.2.2.2.1 D1.out.2.2.2.2.2.1))
          have B7 := Aside0.mk (K3.below BBX.out hK D1.out.2.2.2.2.2.2.1 D1.out.2.2.2.2.2.2.2.1 D1.out.2.2.2.2.2.2.2.2)
          clear hP hK
          go_wp2_with fail
          go_roundw
          case rel => exact ⟨i + 1, a3, d3, by go_num, by omega, P1, CW, CT, B7⟩
          case measure => simp [intOf]; omega
        · clear P1
          go_wp2_with fail
          refine (same_calls_refl _ c1 ys _ c5 _ _ _ hyl.out rfl CW.out hcW.out CT.out hcT.out).mono ?_
          rintro e wb ⟨rfl, ⟨⟨n0, rfl⟩⟩⟩
          go_wp2_with fail
          refine (readerUNil_calls _).mono ?_
          rintro e wb ⟨rfl, ⟨⟨n1, rfl⟩⟩⟩
          go_wp2_with fail
          refine (readerSNil_calls _).mono ?_
          rintro e wb ⟨rfl, ⟨⟨n2, rfl⟩⟩⟩
          go_wp2_with fail
          refine (readerN5Nil_calls _).mono ?_
          rintro e wb ⟨rfl, ⟨⟨n3, rfl⟩⟩⟩
          go_wp2_with fail
          refine (readerLeftNil_calls _).mono ?_
          rintro e wb ⟨rfl, ⟨⟨n4, rfl⟩⟩⟩
          go_wp2_with fail
          refine (readerErrNil_calls _).mono ?_
          rintro e wb ⟨rfl, ⟨⟨n5, rfl⟩⟩⟩
          go_wp2_with fail
          refine (readerEndNil_calls _).mono ?_
          rintro e wb ⟨rfl, ⟨⟨n6, rfl⟩⟩⟩
          go_wp2_with fail
          go_ret
          exact ⟨by first | rfl | (simp; done), by repeat (first | exact BB.out | apply pw_below_drewN)⟩

end Go.Proofs.Ytbepmlgpapdnpaa.PX
