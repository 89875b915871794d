-- by this session's xprint.py over the kit's print
import Derived.Test.YtbepmlgpapdnpaaPX0
import Derived.Test.YtbepmlgpapdnpaaPXFreaderend
import Derived.Test.YtbepmlgpapdnpaaPXFrefu
import Derived.Test.YtbepmlgpapdnpaaPXFplstate
namespace Go.Proofs.Ytbepmlgpapdnpaa.PX
open Go.RowKit Go.Proofs.YtbepmlgpapdnpaaW.PrintWords Go.Proofs.YtbepmlgpapdnpaaW.PrintLast Go.Proofs.YtbepmlgpapdnpaaW.PrintMore
attribute [local go_sem] max2_int min2_int max_two min_two max_three min_three max_four min_four   -- for this text's walks alone
set_option linter.unusedVariables false
set_option linter.unusedSimpArgs false

/-! ### playrest: function 21 -/
set_option maxHeartbeats 8000000 in
set_option maxRecDepth 100000 in
theorem play4_calls (w : World) (g h q b2 : Nat) (A : Option Addr) (c : Nat) (bs : List Int) (at_ : Nat) (bad most : Int) (L : PL w g h q b2 A c bs at_ bad) :
    Calls Try.prog 21 #[.pointer (some ⟨g, 0, none⟩), .pointer (some ⟨q, 0, none⟩), .agg #[.int .i64 4, .int .i64 most]] w fun e w' => e = .returned (.bool true) ∧ (∃ at2 bad2, PL w' g h q b2 A c bs at2 bad2) ∧ K3 g h q w w' := by
  have BX := Aside0.mk (below_alloc (Below.refl w.heap.size w) (Obj.cells #[.int .i64 4, .int .i64 most] 49))
  have L1 := Aside0.mk (L.keep BX.out)
  have D := Aside0.mk (fun n => pw_below_drewN (Below.refl (w.alloc (Obj.cells #[.int .i64 4, .int .i64 most] 49)).heap.size (w.alloc (Obj.cells #[.int .i64 4, .int .i64 most] 49))) n)
  have NC := Aside0.mk (readerLeft_calls ((w.alloc (Obj.cells #[.int .i64 4, .int .i64 most] 49)).drew) g h A c bs at_ bad (L1.out.keep (D.out 1)).rd)
  obtain ⟨A2, c2, F⟩ := L1.out.rf
  have hc0 := blk_cell F.hq 0
  simp only [List.getElem?_toArray, List.getElem?_cons_zero, List.getElem?_cons_succ] at hc0
  have hat := L1.out.rd.hat
  have hz : (((bs.length : Int) - (at_ : Int)) == ((bs.drop at_).length : Int)) = true := beq_iff_eq.2 (by rw [List.length_drop]; omega)
  generalize bs.drop at_ = zs at hc0 hz
  clear L F
  go_enter Try.func21, Try.ntmps21
  go_wp2_with fail
  go_region_with (go_at_call 19; (with_reducible refine NC.out.mono ?_); rintro e w2 ⟨rfl, ⟨⟨n2, rfl⟩⟩⟩)
  all_goals go_wp2_with fail
  all_goals go_ret
  all_goals exact ⟨by first | rfl | (simp; done), ⟨_, _, L1.out.keep (by repeat (first | exact Below.refl _ _ | apply pw_below_drewN))⟩, K3.of_below (by repeat (first | exact BX.out | apply pw_below_drewN))⟩
set_option maxHeartbeats 8000000 in
set_option maxRecDepth 100000 in
theorem play5_calls (w : World) (g h q b2 : Nat) (A : Option Addr) (c : Nat) (bs : List Int) (at_ : Nat) (bad most : Int) (L : PL w g h q b2 A c bs at_ bad) :
    Calls Try.prog 21 #[.pointer (some ⟨g, 0, none⟩), .pointer (some ⟨q, 0, none⟩), .agg #[.int .i64 5, .int .i64 most]] w fun e w' => e = .returned (.bool true) ∧ (∃ at2 bad2, PL w' g h q b2 A c bs at2 bad2) ∧ K3 g h q w w' := by
  have BX := Aside0.mk (below_alloc (Below.refl w.heap.size w) (Obj.cells #[.int .i64 5, .int .i64 most] 49))
  have L1 := Aside0.mk (L.keep BX.out)
  have D := Aside0.mk (fun n => pw_below_drewN (Below.refl (w.alloc (Obj.cells #[.int .i64 5, .int .i64 most] 49)).heap.size (w.alloc (Obj.cells #[.int .i64 5, .int .i64 most] 49))) n)
  have NC := Aside0.mk (readerErr_calls ((w.alloc (Obj.cells #[.int .i64 5, .int .i64 most] 49)).drew) g h A c bs at_ bad (L1.out.keep (D.out 1)).rd)
  obtain ⟨A2, c2, F⟩ := L1.out.rf
  have hc1 := blk_cell F.hq 1
  simp only [List.getElem?_toArray, List.getElem?_cons_zero, List.getElem?_cons_succ] at hc1
  clear L F
  go_enter Try.func21, Try.ntmps21
  go_wp2_with fail
  go_region_with (go_at_call 23; (with_reducible refine NC.out.mono ?_); rintro e w2 ⟨rfl, rfl⟩)
  all_goals go_wp2_with fail
  all_goals go_ret
  all_goals exact ⟨by first | rfl | (simp; done), ⟨_, _, L1.out.keep (by repeat (first | exact Below.refl _ _ | apply pw_below_drewN))⟩, K3.of_below (by repeat (first | exact BX.out | apply pw_below_drewN))⟩
theorem end_eq {bs : List Int} {at_ : Nat} {bad : Int} (h : at_ ≤ bs.length) : rEnd bs at_ bad = fEnd (bs.drop at_) bad := by
  unfold rEnd fEnd
  rw [List.length_drop]
  by_cases hb : bad = 0
  · rw [if_neg (not_not_intro hb)]
    by_cases hl : bs.length = at_
    · rw [if_pos hl, if_neg (by omega), hb]
    · rw [if_neg hl, if_pos ⟨hb, by omega⟩]
  · rw [if_pos hb, if_neg (fun h => hb h.1)]
set_option maxHeartbeats 8000000 in
set_option maxRecDepth 100000 in
theorem play6_calls (w : World) (g h q b2 : Nat) (A : Option Addr) (c : Nat) (bs : List Int) (at_ : Nat) (bad most : Int) (L : PL w g h q b2 A c bs at_ bad) :
    Calls Try.prog 21 #[.pointer (some ⟨g, 0, none⟩), .pointer (some ⟨q, 0, none⟩), .agg #[.int .i64 6, .int .i64 most]] w fun e w' => e = .returned (.bool true) ∧ (∃ at2 bad2, PL w' g h q b2 A c bs at2 bad2) ∧ K3 g h q w w' := by
  have BX := Aside0.mk (below_alloc (Below.refl w.heap.size w) (Obj.cells #[.int .i64 6, .int .i64 most] 49))
  have L1 := Aside0.mk (L.keep BX.out)
  have D := Aside0.mk (fun n => pw_below_drewN (Below.refl (w.alloc (Obj.cells #[.int .i64 6, .int .i64 most] 49)).heap.size (w.alloc (Obj.cells #[.int .i64 6, .int .i64 most] 49))) n)
  have heq := end_eq (bad := bad) L1.out.rd.hat
  obtain ⟨A2, c2, F⟩ := L1.out.rf
  clear L
  go_enter Try.func21, Try.ntmps21
  go_wp2_with fail
  refine (readerEnd_calls _ g h A c bs at_ bad L1.out.rd).mono ?_
  rintro e w2 ⟨rfl, ⟨⟨n2, rfl⟩⟩⟩
  go_wp2_with fail
  refine (refEnd_calls _ q b2 A2 c2 (bs.drop at_) bad (F.drewN n2)).mono ?_
  rw [← heq]
  rintro e w3 ⟨rfl, ⟨⟨n3, rfl⟩⟩⟩
  generalize rEnd bs at_ bad = u
  go_wp2_with fail
  go_ret
  exact ⟨by first | rfl | (simp; done), ⟨_, _, L1.out.keep (by repeat (first | exact Below.refl _ _ | apply pw_below_drewN))⟩, K3.of_below (by repeat (first | exact BX.out | apply pw_below_drewN))⟩
set_option maxHeartbeats 8000000 in
set_option maxRecDepth 100000 in
theorem play0_calls (w : World) (g h q b2 : Nat) (A : Option Addr) (c : Nat) (bs : List Int) (at_ : Nat) (bad kind most : Int) (L : PL w g h q b2 A c bs at_ bad) (k1 : kind ≠ 1) (k2 : kind ≠ 2) (k3 : kind ≠ 3) (k4 : kind ≠ 4) (k5 : kind ≠ 5) (k6 : kind ≠ 6) :
    Calls Try.prog 21 #[.pointer (some ⟨g, 0, none⟩), .pointer (some ⟨q, 0, none⟩), .agg #[.int .i64 kind, .int .i64 most]] w fun e w' => e = .returned (.bool true) ∧ (∃ at2 bad2, PL w' g h q b2 A c bs at2 bad2) ∧ K3 g h q w w' := by
  have BX := Aside0.mk (below_alloc (Below.refl w.heap.size w) (Obj.cells #[.int .i64 kind, .int .i64 most] 49))
  have L1 := Aside0.mk (L.keep BX.out)
  have b1 : (kind == 1) = false := beq_eq_false_iff_ne.2 k1
  have b2 : (kind == 2) = false := beq_eq_false_iff_ne.2 k2
  have b3 : (kind == 3) = false := beq_eq_false_iff_ne.2 k3
  have b4 : (kind == 4) = false := beq_eq_false_iff_ne.2 k4
  have b5 : (kind == 5) = false := beq_eq_false_iff_ne.2 k5
  have b6 : (kind == 6) = false := beq_eq_false_iff_ne.2 k6
  clear L k1 k2 k3 k4 k5 k6
  go_enter Try.func21, Try.ntmps21
  go_wp2_with fail
  go_ret
  exact ⟨by first | rfl | (simp; done), ⟨_, _, L1.out.keep (by repeat (first | exact Below.refl _ _ | apply pw_below_drewN))⟩, K3.of_below (by repeat (first | exact BX.out | apply pw_below_drewN))⟩
theorem play_calls (w : World) (g h q b2 : Nat) (A : Option Addr) (c : Nat) (bs : List Int) (at_ : Nat) (bad kind most : Int) (L : PL w g h q b2 A c bs at_ bad) (hm0 : -9223372036854775808 ≤ most) (hm : most ≤ 9223372036854775807) :
    Calls Try.prog 21 #[.pointer (some ⟨g, 0, none⟩), .pointer (some ⟨q, 0, none⟩), .agg #[.int .i64 kind, .int .i64 most]] w fun e w' => e = .returned (.bool true) ∧ (∃ at2 bad2, PL w' g h q b2 A c bs at2 bad2) ∧ K3 g h q w w' := by
  by_cases k1 : kind = 1
  · subst k1; exact play1_calls w g h q b2 A c bs at_ bad most L
  by_cases k2 : kind = 2
  · subst k2; exact play2_calls w g h q b2 A c bs at_ bad most L
  by_cases k3 : kind = 3
  · subst k3; exact play3_calls w g h q b2 A c bs at_ bad most L hm0 hm
  by_cases k4 : kind = 4
  · subst k4; exact play4_calls w g h q b2 A c bs at_ bad most L
  by_cases k5 : kind = 5
  · subst k5; exact play5_calls w g h q b2 A c bs at_ bad most L
  by_cases k6 : kind = 6
  · subst k6; exact play6_calls w g h q b2 A c bs at_ bad most L
  exact play0_calls w g h q b2 A c bs at_ bad kind most L k1 k2 k3 k4 k5 k6

end Go.Proofs.Ytbepmlgpapdnpaa.PX
