-- by this session's xprint.py over the kit's print
import Derived.Test.YtbepmlgpapdnpaaPX0
import Derived.Test.YtbepmlgpapdnpaaPXFgroww
import Derived.Test.YtbepmlgpapdnpaaPXFwirePutU
import Derived.Test.YtbepmlgpapdnpaaPXFwirePutS
import Derived.Test.YtbepmlgpapdnpaaPXFspillwaylaw04same
import Derived.Test.YtbepmlgpapdnpaaPXFrdstate
import Derived.Test.YtbepmlgpapdnpaaPXFvgetok
import Derived.Test.YtbepmlgpapdnpaaPXFtake
import Derived.Test.YtbepmlgpapdnpaaPXFreaderus
import Derived.Test.YtbepmlgpapdnpaaPXFreaderend
import Derived.Test.YtbepmlgpapdnpaaPXFreadernew
namespace Go.Proofs.Ytbepmlgpapdnpaa.PX
open Go.RowKit Go.Proofs.YtbepmlgpapdnpaaW.PrintWords Go.Proofs.YtbepmlgpapdnpaaW.PrintLast Go.Proofs.YtbepmlgpapdnpaaW.PrintMore
attribute [local go_sem] max2_int min2_int max_two min_two max_three min_three max_four min_four   -- for this text's walks alone
set_option linter.unusedVariables false
set_option linter.unusedSimpArgs false

/-! ### spillwaylaw04_fixed: function 14 -/
theorem same_loop (l : List Int) (hL : l.length ≤ 9223372036854775807) (d : Nat) : ∀ (k : Nat) (i : Int), 0 ≤ i → i ≤ l.length → (l.length : Int) - i = d → d < k → spillwaylaw04_same.l0 k l l l.length i = some true := by
  induction d with
  | zero =>
    intro k i h0 h1 hd hk
    obtain ⟨k, rfl⟩ : ∃ m, k = m + 1 := ⟨k - 1, by omega⟩
    simp only [spillwaylaw04_same.l0]; rw [if_neg (by omega)]
  | succ d ih =>
    intro k i h0 h1 hd hk
    obtain ⟨k, rfl⟩ : ∃ m, k = m + 1 := ⟨k - 1, by omega⟩
    simp only [spillwaylaw04_same.l0]
    rw [if_pos (by omega), if_pos h0, if_pos (by omega), if_pos (by omega), if_pos trivial, wrap64_of (by omega) (by omega)]
    exact ih k (i + 1) (by omega) (by omega) (by omega) (by omega)
theorem same_refl (l : List Int) (hL : l.length ≤ 9223372036854775807) : spillwaylaw04_same.f (l.length + 1) l l = some true := by
  unfold spillwaylaw04_same.f
  rw [if_pos rfl]
  exact same_loop l hL l.length (l.length + 1) 0 (by omega) (by omega) (by omega) (by omega)
theorem same_calls_refl (A0 : Option Addr) (c0 : Nat) (l : List Int) (A1 : Option Addr) (c1 n0 n1 : Nat) (w : World) (hn0 : n0 = l.length) (hn1 : n1 = l.length) (hr0 : Kd.C (Kd.int .u8) w A0 l.length l) (hc0 : l.length ≤ c0) (hr1 : Kd.C (Kd.int .u8) w A1 l.length l) (hc1 : l.length ≤ c1) :
    Calls Try.prog 15 #[.slice A0 n0 c0, .slice A1 n1 c1] w fun e w' => e = .returned (.bool true) ∧ Drawn0 w w' := by
  subst hn0 hn1
  exact spillwaylaw04_same.calls _ A0 c0 l A1 c1 l true w hr0 hc0 hr1 hc1 (same_refl l hr0.2.1)
theorem lit_u8 (w : World) (xs : List Int) (hL : xs.length ≤ 9223372036854775807) : Kd.C (Kd.int .u8) (w.alloc (.cells (xs.map (Value.int .u8)).toArray 5)) (some ⟨w.heap.size, 0, none⟩) xs.length xs := by
  refine C_of_block (blk_new w _) ⟨by simp [Kd.int, Kd.scalar], fun j p hj => ?_⟩ hL
  show ((xs.map (Value.int .u8)).toArray.toList.drop (j * 1)).take 1 = [Value.int .u8 p]
  obtain ⟨hl, hp⟩ := List.getElem?_eq_some_iff.1 hj
  rw [Nat.mul_one]
  simp only [List.toList_toArray]
  rw [List.drop_eq_getElem_cons (by simpa using hl)]
  simp [hp]
theorem readerNew_n (w : World) (A0 : Option Addr) (n c0 : Nat) (bs : List Int) (hn : n = bs.length) (hr0 : (Kd.int .u8).C w A0 bs.length bs) (hc0 : bs.length ≤ c0) (hL : bs.length < 140737488355328) (hb : ∀ x ∈ bs, 0 ≤ x ∧ x < 256) :
    Calls Try.prog 16 #[.slice A0 n c0] w fun e w' => ∃ g h A c, e = .returned (.pointer (some ⟨g, 0, none⟩)) ∧ RD w' g h A c bs 0 0 ∧ Below w.heap.size w w' ∧ w.heap.size ≤ g ∧ w.heap.size ≤ h ∧ (∀ ad, A = some ad → 0 < bs.length → w.heap.size ≤ ad.block) := by
  subst hn; exact readerNew_calls w A0 c0 bs hr0 hc0 hL hb
theorem putU_n (A0 : Option Addr) (n c0 : Nat) (l0 : List Int) (x : Int) (w : World) (hn : n = l0.length) (hr0 : Kd.C (Kd.int .u8) w A0 l0.length l0) (hc0 : l0.length ≤ c0) (h0 : 0 ≤ x) (h1 : x < 18446744073709551616) (hL : l0.length + 20 < 140737488355328) :
    Calls Try.prog 9 #[.slice A0 n c0, .int .u64 x] w fun e w' => ∃ v0_ : Value, e = .returned (v0_) ∧ Kd.R (Kd.int .u8) 5 w' w.heap.size (fun _ => True) v0_ (l0 ++ uform x.toNat) ∧ Below w.heap.size w w' := by
  subst hn; exact wire_PutU.calls A0 c0 l0 x _ w hr0 hc0 (by rw [wire_PutU.f, if_pos ⟨h0, h1, hL⟩])
theorem putS_n (A0 : Option Addr) (n c0 : Nat) (l0 : List Int) (x : Int) (w : World) (hn : n = l0.length) (hr0 : Kd.C (Kd.int .u8) w A0 l0.length l0) (hc0 : l0.length ≤ c0) (h0 : -9223372036854775808 ≤ x) (h1 : x ≤ 9223372036854775807) (hL : l0.length + 20 < 140737488355328) :
    Calls Try.prog 10 #[.slice A0 n c0, .int .i64 x] w fun e w' => ∃ v0_ : Value, e = .returned (v0_) ∧ Kd.R (Kd.int .u8) 5 w' w.heap.size (fun _ => True) v0_ (l0 ++ uform (sfold x).toNat) ∧ Below w.heap.size w w' := by
  subst hn; exact wire_PutS.calls A0 c0 l0 x _ w hr0 hc0 (by rw [wire_PutS.f, if_pos ⟨h0, h1, hL⟩])
theorem form300 : ([170] : List Int) ++ uform (300 : Int).toNat = [170, 172, 2] := by
  rw [show (300 : Int).toNat = 300 from rfl, uform_ge (by decide), uform_lt (by decide)]; rfl
theorem formm2 : ([] : List Int) ++ uform (sfold (-2)).toNat = [3] := by
  rw [show (sfold (-2)).toNat = 3 from rfl, uform_lt (by decide)]; rfl
theorem KP.below_ {w W w' : World} {g h : Nat} (hb : Below w.heap.size w W) (hk : KP g h W w') (hg : w.heap.size ≤ g) (hh : w.heap.size ≤ h) : Below w.heap.size w w' :=
  ⟨hk.os.trans hb.os, hk.tape.trans hb.tape, hk.output.trans hb.output, Nat.le_trans hb.size hk.size, fun k hk2 => (hk.block k (Nat.lt_of_lt_of_le hk2 hb.size) (by omega) (by omega)).trans (hb.block k hk2)⟩
theorem rU_a : rU [172, 2, 3] 0 0 = (300, 2, 0) := by decide
theorem rU_b : rU [172, 2, 3] 2 0 = (3, 3, 0) := by decide
theorem C_nil0 (w : World) : Kd.C (Kd.int .u8) w none 0 [] := ⟨rfl, by omega, fun h => absurd h (by omega)⟩
def spillwaylaw04_fixed.f : Option Bool := some true
set_option maxHeartbeats 8000000 in
set_option maxRecDepth 100000 in
theorem spillwaylaw04_fixed.calls  (r : Bool) (w : World) (h : spillwaylaw04_fixed.f  = some r) :
    Calls Try.prog 14 #[] w fun e w' => e = .returned (.bool r) ∧ Below w.heap.size w w' := by
  obtain rfl := Option.some.inj h
  clear h
  have hpn := fun (W : World) (p : Option Addr) => ptr_nil W p
  have HB := Aside0.mk (Below.refl w.heap.size w)
  go_enter Try.func14, Try.ntmps14
  go_wp2_with fail
  refine (readerNew_n _ _ 3 3 [172, 2, 3] rfl (lit_u8 w [172, 2, 3] (by decide)) (by decide) (by decide) (by decide)).mono ?_
  rintro e w1 ⟨g, h, A, c, rfl, hRD, hB1, hg, hh, _⟩
  have B1 := Aside0.mk (below_two (below_alloc (Below.refl w.heap.size w) _) hB1)
  have R1 := Aside0.mk hRD
  have S1 := Aside0.mk (show w.heap.size ≤ g by simp at hg; omega)
  have S2 := Aside0.mk (show w.heap.size ≤ h by simp at hh; omega)
  clear hRD hB1 hg hh HB
  go_wp2_with fail
  refine (putU_n _ 1 1 [170] 300 _ rfl (lit_u8 w1 [170] (by decide)) (by decide) (by decide) (by decide) (by decide)).mono ?_
  rintro e w2 ⟨v2, rfl, hR2, hB2⟩
  rw [form300] at hR2
  obtain ⟨A2, c2, rfl, hc2⟩ := own_slice' hR2
  have R2 := Aside0.mk hR2
  have B2 := Aside0.mk (below_two (below_alloc (Below.refl w1.heap.size w1) _) hB2)
  clear hR2 hB2
  go_wp2_with fail
  refine (same_calls_refl A2 c2 [170, 172, 2] _ 3 3 3 _ rfl rfl (Kd.C_below (Kd.R_reads_row R2.out hc2) (below_alloc (Below.refl _ _) _)) hc2 (lit_u8 w2 [170, 172, 2] (by decide)) (by decide)).mono ?_
  rintro e w3 ⟨rfl, ⟨⟨n3, rfl⟩⟩⟩
  go_wp2_with fail
  refine (putS_n _ 0 0 [] (-2) _ rfl (C_nil0 _) (by decide) (by decide) (by decide) (by decide)).mono ?_
  rintro e w4 ⟨v4, rfl, hR4, hB4⟩
  rw [formm2] at hR4
  obtain ⟨A4, c4, rfl, hc4⟩ := own_slice' hR4
  have R4 := Aside0.mk hR4
  have B4 := Aside0.mk (below_two (pw_below_drewN (below_alloc (Below.refl w2.heap.size w2) _) _) hB4)
  clear hR4 hB4
  go_wp2_with fail
  refine (same_calls_refl A4 c4 [3] _ 1 1 1 _ rfl rfl (Kd.C_below (Kd.R_reads_row R4.out hc4) (below_alloc (Below.refl _ _) _)) hc4 (lit_u8 w4 [3] (by decide)) (by decide)).mono ?_
  rintro e w5 ⟨rfl, ⟨⟨n5, rfl⟩⟩⟩
  have B5 := Aside0.mk (below_two (below_two B2.out B4.out) (pw_below_drewN (below_alloc (Below.refl w4.heap.size w4) (Obj.cells #[.int .u8 3] 5)) n5))
  have R5 := Aside0.mk (R1.out.keep (fun i hi => B5.out.block i hi))
  have B6 := Aside0.mk (below_two B1.out B5.out)
  clear R1 R2 R4 B2 B4 B1 B5
  go_wp2_with fail
  refine (readerU_calls _ g h A c [172, 2, 3] 0 0 R5.out).mono ?_
  rw [rU_a]
  rintro e w6 ⟨rfl, hR6, hK6⟩
  have R6 := Aside0.mk hR6
  have B7 := Aside0.mk (KP.below_ B6.out hK6 S1.out S2.out)
  clear hR6 hK6 R5 B6
  go_wp2_with fail
  refine (readerS_calls _ g h A c [172, 2, 3] 2 0 R6.out).mono ?_
  rw [rU_b, show sunfold ((3, 3, 0) : Int × Nat × Int).1 = -2 by decide]
  rintro e w7 ⟨rfl, hR7, hK7⟩
  have R7 := Aside0.mk hR7
  have B8 := Aside0.mk (KP.below_ B7.out hK7 S1.out S2.out)
  clear hR7 hK7 R6 B7
  go_wp2_with fail
  refine (readerLeft_calls _ g h A c [172, 2, 3] 3 0 R7.out).mono ?_
  rintro e w8 ⟨rfl, ⟨⟨n8, rfl⟩⟩⟩
  go_wp2_with fail
  refine (readerEnd_calls _ g h A c [172, 2, 3] 3 0 (R7.out.drewN n8)).mono ?_
  rw [show rEnd [172, 2, 3] 3 0 = 0 by decide]
  rintro e w9 ⟨rfl, ⟨⟨n9, rfl⟩⟩⟩
  go_wp2_with fail
  go_ret
  exact ⟨rfl, by repeat (first | exact B8.out | apply pw_below_drewN)⟩

end Go.Proofs.Ytbepmlgpapdnpaa.PX
