/- The functions are their pure forms. -/
import Derived.Test.YtfekobhcekcniaaVS
import Derived.Test.YtfekobhcekcniaaVX2
set_option linter.unusedVariables false
set_option linter.unusedSimpArgs false
set_option linter.unusedVariables false
set_option maxRecDepth 100000
set_option maxHeartbeats 0
namespace Go.Proofs.Ytfekobhcekcniaa.V16
open Go.Proofs Go.Proofs.Ytfekobhcekcniaa.VX
theorem c_ref15_Copy {a0 : Bool} {a1 : Rws} {a2 : Bool} {a3 : Rws} {Q : Bool × Rws × Bool × Rws → Prop} {R : AV → List AB → Prop} (h : (g_ref15_Copy a0 a1 a2 a3).run Q) (k : ∀ r, Q r → R (.agg [.own 0, .own 1]) ([.arr true 43 (r.fst) (r.snd.fst), .arr true 44 (r.snd.snd.fst) (r.snd.snd.snd)])) : ACalls Try.prog tab 8 [.agg [.sl (a0) 43 (a1), .sl (a2) 44 (a3)]] [] R := by
  refine ACalls.out (fun r => .agg [.own 0, .own 1]) (fun r => [.arr true 43 (r.fst) (r.snd.fst), .arr true 44 (r.snd.snd.fst) (r.snd.snd.snd)]) (Q := Q) (ACalls.introX (mv := mv) tab_ok mixed_ (fn := Try.f8) (by kernel_rfl) rfl (by kernel_rfl) (by kernel_rfl) (Nat.le_of_ble_eq_true rfl) ?_) (fun v => by first | exact ⟨rfl, Nat.le_of_ble_eq_true rfl⟩ | (cases v <;> exact ⟨rfl, Nat.le_of_ble_eq_true rfl⟩)) k
  conv => whnf
  refine ASeq.go tab_ok mixed_ ?_
  conv => whnf
  refine ALoop.ofW tab_ok mixed_ (fun v2 => ⟨[(1, .ptr 0 0), (2, .ptr 1 0), (3, .own 2), (7, .sl (a2) 44 (a3)), (8, .int .i64 ((↑(List.length a3) : Int))), (9, .int .i64 (v2.fst))], [(0, .box 25 [.sl (a0) 43 (a1), .sl (a2) 44 (a3)]), (1, .box 25 [.nils, .nils]), (2, .arr true 44 (v2.snd.fst) (v2.snd.snd))], 3, [], []⟩) (fun v3 => (.exit 0, ⟨[(1, .ptr 0 0), (2, .ptr 1 0), (3, .own 2)], [(0, .box 25 [.sl (a0) 43 (a1), .sl (a2) 44 (a3)]), (1, .box 25 [.nils, .nils]), (2, .arr true 44 (v3.fst) (v3.snd))], 3, [], []⟩)) (W.bindE h) (Weak.a ?_) (fun v2 I Q h => ?_) (fun v3 h => ?_)
  · conv => whnf
    exact ⟨rfl, rfl, rfl, rfl, rfl⟩
  · conv => whnf
    refine ASeq.go tab_ok mixed_ ?_
    conv => whnf
    refine XSplit.mk (fun e => ?_) (fun e => ?_)
    · replace h := XSplit.t h e
      conv => whnf
      refine ASeq.go tab_ok mixed_ ?_
      conv => whnf
      refine XNeed.mk (XNeed.c h) ?_; replace h := XNeed.x h
      conv => whnf
      refine XNeed.mk (XNeed.c h) ?_; replace h := XNeed.x h
      conv => whnf
      refine XNeed.mk (XNeed.c h) ?_; replace h := XNeed.x h
      conv => whnf
      refine ⟨_, Weak.a ?_, h⟩; (conv => whnf); exact ⟨rfl, rfl, rfl, rfl, rfl⟩
    · replace h := XSplit.f h e
      conv => whnf
      refine ⟨_, ?_, Weak.a ?_, h⟩; exact rfl; (conv => whnf); exact ⟨rfl, rfl, rfl, rfl, rfl⟩
  · conv => whnf
    refine XNeed.mk (XNeed.c h) ?_; replace h := XNeed.x h
    conv => whnf
    refine ⟨_, Weak.a ?_, ?_, h⟩; (conv => whnf); exact ⟨rfl, rfl, rfl, rfl, rfl⟩; exact rfl

theorem c_seal_check {a0 : Bool} {a1 : Rws} {a2 : Bool} {a3 : Rws} {Q : Int × Int × Int → Prop} {R : AV → List AB → Prop} (h : (g_seal_check a0 a1 a2 a3).run Q) (k : ∀ r, Q r → R (.agg [.int .i64 (r.fst), .int .i64 (r.snd.fst), .int .i64 (r.snd.snd)]) ([])) : ACalls Try.prog tab 17 [.agg [.sl (a0) 43 (a1), .sl (a2) 44 (a3)]] [] R := by
  refine ACalls.out (fun r => .agg [.int .i64 (r.fst), .int .i64 (r.snd.fst), .int .i64 (r.snd.snd)]) (fun r => []) (Q := Q) (ACalls.introX (mv := mv) tab_ok mixed_ (fn := Try.f17) (by kernel_rfl) rfl (by kernel_rfl) (by kernel_rfl) (Nat.le_of_ble_eq_true rfl) ?_) (fun v => by first | exact ⟨rfl, Nat.le_of_ble_eq_true rfl⟩ | (cases v <;> exact ⟨rfl, Nat.le_of_ble_eq_true rfl⟩)) k
  conv => whnf
  refine ASeq.go tab_ok mixed_ ?_
  conv => whnf
  refine XSplit.mk (fun e => ?_) (fun e => ?_)
  · replace h := XSplit.t h e
    conv => whnf
    refine ⟨_, Weak.a ?_, ?_, h⟩; (conv => whnf); exact ⟨rfl, rfl, rfl, rfl, rfl⟩; exact rfl
  · replace h := XSplit.f h e
    conv => whnf
    refine ASeq.go tab_ok mixed_ ?_
    conv => whnf
    refine ALoop.ofW tab_ok mixed_ (fun v6 => ⟨[(2, .ptr 0 0), (19, .sl (a2) 44 (a3)), (20, .int .i64 ((↑(List.length a3) : Int))), (21, .int .i64 (v6))], [(0, .box 30 [.int .i64 (0), .int .i64 (0), .int .i64 (0)])], 1, [], []⟩) (sx (fun v7 => (.ret, ⟨[(2, .ptr 0 0)], [(0, .box 30 [.int .i64 (v7.fst), .int .i64 (v7.snd.fst), .int .i64 (v7.snd.snd)])], 1, [], []⟩)) (fun v8 => (.exit 0, ⟨[(2, .ptr 0 0)], [(0, .box 30 [.int .i64 (0), .int .i64 (0), .int .i64 (0)])], 1, [], []⟩))) (W.bindE h) (Weak.a ?_) (fun v6 I Q h => ?_) (fun v h => ?_)
    · conv => whnf
      exact ⟨rfl, rfl, rfl, rfl, rfl⟩
    · conv => whnf
      refine ASeq.go tab_ok mixed_ ?_
      conv => whnf
      refine XSplit.mk (fun e => ?_) (fun e => ?_)
      · replace h := XSplit.t h e
        conv => whnf
        refine ASeq.go tab_ok mixed_ ?_
        conv => whnf
        refine XNeed.mk (XNeed.c h) ?_; replace h := XNeed.x h
        conv => whnf
        refine ASeq.go tab_ok mixed_ ?_
        conv => whnf
        refine XSplit.mk (fun e => ?_) (fun e => ?_)
        · replace h := XSplit.t h e
          conv => whnf
          refine ⟨_, ?_, Weak.a ?_, h⟩; exact rfl; (conv => whnf); exact ⟨rfl, rfl, rfl, rfl, rfl⟩
        · replace h := XSplit.f h e
          conv => whnf
          refine ALoop.ofW tab_ok mixed_ (fun v9 => ⟨[(2, .ptr 0 0), (3, .int .i64 (v6)), (4, .sl (rn a3 v6.toNat 0) 46 (rr a3 v6.toNat 0)), (19, .sl (a2) 44 (a3)), (20, .int .i64 ((↑(List.length a3) : Int))), (21, .int .i64 (v6)), (22, .bool (decide (v6 < (↑(List.length a3) : Int)))), (23, .int .i64 (v6)), (24, .rel 44 (a3) (v6.toNat) 0), (25, .sl (rn a3 v6.toNat 0) 46 (rr a3 v6.toNat 0)), (26, .sl (rn a3 v6.toNat 0) 46 (rr a3 v6.toNat 0)), (27, .int .i64 ((↑(List.length (rr a3 v6.toNat 0)) : Int))), (28, .bool (decide (1024 < (↑(List.length (rr a3 v6.toNat 0)) : Int)))), (32, .sl (rn a3 v6.toNat 0) 46 (rr a3 v6.toNat 0)), (33, .int .i64 ((↑(List.length (rr a3 v6.toNat 0)) : Int))), (34, .int .i64 (v9))], [(0, .box 30 [.int .i64 (0), .int .i64 (0), .int .i64 (0)])], 1, [], []⟩) (sx (fun v10 => (.ret, ⟨[(2, .ptr 0 0), (3, .int .i64 (v6)), (4, .sl (rn a3 v6.toNat 0) 46 (rr a3 v6.toNat 0)), (5, .int .i64 (v10.fst)), (6, .ptr 1 0), (19, .sl (a2) 44 (a3)), (20, .int .i64 ((↑(List.length a3) : Int))), (21, .int .i64 (v6)), (22, .bool (decide (v6 < (↑(List.length a3) : Int)))), (23, .int .i64 (v6)), (24, .rel 44 (a3) (v6.toNat) 0), (25, .sl (rn a3 v6.toNat 0) 46 (rr a3 v6.toNat 0)), (26, .sl (rn a3 v6.toNat 0) 46 (rr a3 v6.toNat 0)), (27, .int .i64 ((↑(List.length (rr a3 v6.toNat 0)) : Int))), (28, .bool (decide (1024 < (↑(List.length (rr a3 v6.toNat 0)) : Int)))), (32, .sl (rn a3 v6.toNat 0) 46 (rr a3 v6.toNat 0)), (33, .int .i64 ((↑(List.length (rr a3 v6.toNat 0)) : Int))), (34, .int .i64 (v10.snd.fst)), (35, .bool (v10.snd.snd.fst)), (36, .int .i64 (v10.snd.snd.snd.fst)), (37, .rel 46 (rr a3 v6.toNat 0) (v10.snd.snd.snd.snd.fst) 0), (38, .agg [.int .i64 (v10.snd.snd.snd.snd.snd.fst), .int .i64 (v10.snd.snd.snd.snd.snd.snd.fst), .int .i64 (v10.snd.snd.snd.snd.snd.snd.snd.fst), .int .i64 (v10.snd.snd.snd.snd.snd.snd.snd.snd.fst), .int .i64 (v10.snd.snd.snd.snd.snd.snd.snd.snd.snd.fst), .int .i64 (v10.snd.snd.snd.snd.snd.snd.snd.snd.snd.snd.fst)]), (39, .ptr 1 0), (40, .int .i64 (v10.snd.snd.snd.snd.snd.snd.snd.snd.snd.snd.snd.fst)), (41, .ptr 1 1), (42, .int .i64 (v10.snd.snd.snd.snd.snd.snd.snd.snd.snd.snd.snd.snd.fst)), (43, .int .i64 (v10.snd.snd.snd.snd.snd.snd.snd.snd.snd.snd.snd.snd.snd.fst)), (44, .bool (v10.snd.snd.snd.snd.snd.snd.snd.snd.snd.snd.snd.snd.snd.snd.fst)), (45, .bool (v10.snd.snd.snd.snd.snd.snd.snd.snd.snd.snd.snd.snd.snd.snd.snd.fst)), (52, .bool (v10.snd.snd.snd.snd.snd.snd.snd.snd.snd.snd.snd.snd.snd.snd.snd.snd.fst)), (53, .int .i64 (v6)), (54, .int .i64 (IntKind.i64.wrap (v6 + 1))), (55, .int .i64 (v10.snd.snd.snd.snd.snd.snd.snd.snd.snd.snd.snd.snd.snd.snd.snd.snd.snd.fst)), (56, .int .i64 (v10.snd.snd.snd.snd.snd.snd.snd.snd.snd.snd.snd.snd.snd.snd.snd.snd.snd.snd.fst)), (57, .agg [.int .i64 (2), .int .i64 (IntKind.i64.wrap (v6 + 1)), .int .i64 (v10.snd.snd.snd.snd.snd.snd.snd.snd.snd.snd.snd.snd.snd.snd.snd.snd.snd.snd.snd.fst)])], [(0, .box 30 [.int .i64 (2), .int .i64 (IntKind.i64.wrap (v6 + 1)), .int .i64 (v10.snd.snd.snd.snd.snd.snd.snd.snd.snd.snd.snd.snd.snd.snd.snd.snd.snd.snd.snd.snd.fst)]), (1, .box 46 [.int .i64 (v10.snd.snd.snd.snd.snd.snd.snd.snd.snd.snd.snd.snd.snd.snd.snd.snd.snd.snd.snd.snd.snd.fst), .int .i64 (v10.snd.snd.snd.snd.snd.snd.snd.snd.snd.snd.snd.snd.snd.snd.snd.snd.snd.snd.snd.snd.snd.snd.fst), .int .i64 (v10.snd.snd.snd.snd.snd.snd.snd.snd.snd.snd.snd.snd.snd.snd.snd.snd.snd.snd.snd.snd.snd.snd.snd.fst), .int .i64 (v10.snd.snd.snd.snd.snd.snd.snd.snd.snd.snd.snd.snd.snd.snd.snd.snd.snd.snd.snd.snd.snd.snd.snd.snd.fst), .int .i64 (v10.snd.snd.snd.snd.snd.snd.snd.snd.snd.snd.snd.snd.snd.snd.snd.snd.snd.snd.snd.snd.snd.snd.snd.snd.snd.fst), .int .i64 (v10.snd.snd.snd.snd.snd.snd.snd.snd.snd.snd.snd.snd.snd.snd.snd.snd.snd.snd.snd.snd.snd.snd.snd.snd.snd.snd)])], 2, [], []⟩)) (fun v11 => (.exit 2, ⟨[(2, .ptr 0 0), (3, .int .i64 (v6)), (4, .sl (rn a3 v6.toNat 0) 46 (rr a3 v6.toNat 0)), (19, .sl (a2) 44 (a3)), (20, .int .i64 ((↑(List.length a3) : Int))), (21, .int .i64 (v6)), (22, .bool (decide (v6 < (↑(List.length a3) : Int)))), (23, .int .i64 (v6)), (24, .rel 44 (a3) (v6.toNat) 0), (25, .sl (rn a3 v6.toNat 0) 46 (rr a3 v6.toNat 0)), (26, .sl (rn a3 v6.toNat 0) 46 (rr a3 v6.toNat 0)), (27, .int .i64 ((↑(List.length (rr a3 v6.toNat 0)) : Int))), (28, .bool (decide (1024 < (↑(List.length (rr a3 v6.toNat 0)) : Int)))), (32, .sl (rn a3 v6.toNat 0) 46 (rr a3 v6.toNat 0)), (33, .int .i64 ((↑(List.length (rr a3 v6.toNat 0)) : Int))), (34, .int .i64 (v11.fst)), (35, .bool (v11.snd))], [(0, .box 30 [.int .i64 (0), .int .i64 (0), .int .i64 (0)])], 1, [], []⟩))) (W.bindE h) (Weak.a ?_) (fun v9 I Q h => ?_) (fun v h => ?_)
          · conv => whnf
            exact ⟨rfl, rfl, rfl, rfl, rfl⟩
          · conv => whnf
            refine ASeq.go tab_ok mixed_ ?_
            conv => whnf
            refine XSplit.mk (fun e => ?_) (fun e => ?_)
            · replace h := XSplit.t h e
              conv => whnf
              refine ASeq.go tab_ok mixed_ ?_
              conv => whnf
              refine XNeed.mk (XNeed.c h) ?_; replace h := XNeed.x h
              conv => whnf
              refine XSplit.mk (fun e => ?_) (fun e => ?_)
              · replace h := XSplit.t h e
                conv => whnf
                refine ⟨_, ?_, Weak.a ?_, h⟩; exact rfl; (conv => whnf); exact ⟨rfl, rfl, rfl, rfl, rfl⟩
              · replace h := XSplit.f h e
                conv => whnf
                refine ⟨_, Weak.a ?_, h⟩; (conv => whnf); exact ⟨rfl, rfl, rfl, rfl, rfl⟩
            · replace h := XSplit.f h e
              conv => whnf
              refine ⟨_, ?_, Weak.a ?_, h⟩; exact rfl; (conv => whnf); exact ⟨rfl, rfl, rfl, rfl, rfl⟩
          · rcases v with v10 | v11
            · conv => whnf
              refine ⟨_, ?_, Weak.a ?_, h⟩; exact rfl; (conv => whnf); exact ⟨rfl, rfl, rfl, rfl, rfl⟩
            · conv => whnf
              refine ⟨_, Weak.a ?_, h⟩; (conv => whnf); exact ⟨rfl, rfl, rfl, rfl, rfl⟩
      · replace h := XSplit.f h e
        conv => whnf
        refine ⟨_, ?_, Weak.a ?_, h⟩; exact rfl; (conv => whnf); exact ⟨rfl, rfl, rfl, rfl, rfl⟩
    · rcases v with v7 | v8
      · conv => whnf
        refine ⟨_, Weak.a ?_, ?_, h⟩; (conv => whnf); exact ⟨rfl, rfl, rfl, rfl, rfl⟩; exact rfl
      · conv => whnf
        refine ⟨_, Weak.a ?_, ?_, h⟩; (conv => whnf); exact ⟨rfl, rfl, rfl, rfl, rfl⟩; exact rfl

theorem c_slices_Grow___byte_byte__z {a0 : Int} {Q : Bool × Rws → Prop} {R : AV → List AB → Prop} (h : (g_slices_Grow___byte_byte__z a0).run Q) (k : ∀ r, Q r → R (.own 0) ([.arr true 5 (r.fst) (r.snd)])) : ACalls Try.prog tab 52 [.nils, .int .i64 (a0)] [] R := by
  refine ACalls.out (fun r => .own 0) (fun r => [.arr true 5 (r.fst) (r.snd)]) (Q := Q) (ACalls.introX (mv := mv) tab_ok mixed_ (fn := Try.f52) (by kernel_rfl) rfl (by kernel_rfl) (by kernel_rfl) (Nat.le_of_ble_eq_true rfl) ?_) (fun v => by first | exact ⟨rfl, Nat.le_of_ble_eq_true rfl⟩ | (cases v <;> exact ⟨rfl, Nat.le_of_ble_eq_true rfl⟩)) k
  conv => whnf
  refine ASeq.go tab_ok mixed_ ?_
  conv => whnf
  refine XSplit.mk (fun e => ?_) (fun e => ?_)
  · replace h := XSplit.t h e
    conv => whnf
    refine XNeed.mk (XNeed.c h) ?_; replace h := XNeed.x h
    conv => whnf
    exact trivial
  · replace h := XSplit.f h e
    conv => whnf
    refine ASeq.go tab_ok mixed_ ?_
    conv => whnf
    refine XSplit.mk (fun e => ?_) (fun e => ?_)
    · replace h := XSplit.t h e
      conv => whnf
      refine XNeed.mk (of_decide_eq_true rfl) ?_
      conv => whnf
      refine XNeed.mk (XNeed.c h) ?_; replace h := XNeed.x h
      conv => whnf
      refine XNeed.mk (XNeed.c h) ?_; replace h := XNeed.x h
      conv => whnf
      refine ⟨_, Weak.a ?_, ?_, h⟩; (conv => whnf); exact ⟨rfl, rfl, rfl, rfl, rfl⟩; exact rfl
    · replace h := XSplit.f h e
      conv => whnf
      refine ⟨_, Weak.a ?_, ?_, h⟩; (conv => whnf); exact ⟨rfl, rfl, rfl, rfl, rfl⟩; exact rfl

theorem c_slices_Concat___byte_byte_ {a0 : Bool} {a1 : Rws} {Q : Bool × Rws → Prop} {R : AV → List AB → Prop} (h : (g_slices_Concat___byte_byte_ a0 a1).run Q) (k : ∀ r, Q r → R (.own 0) ([.arr true 5 (r.fst) (r.snd)])) : ACalls Try.prog tab 39 [.sl (a0) 27 (a1)] [] R := by
  refine ACalls.out (fun r => .own 0) (fun r => [.arr true 5 (r.fst) (r.snd)]) (Q := Q) (ACalls.introX (mv := mv) tab_ok mixed_ (fn := Try.f39) (by kernel_rfl) rfl (by kernel_rfl) (by kernel_rfl) (Nat.le_of_ble_eq_true rfl) ?_) (fun v => by first | exact ⟨rfl, Nat.le_of_ble_eq_true rfl⟩ | (cases v <;> exact ⟨rfl, Nat.le_of_ble_eq_true rfl⟩)) k
  conv => whnf
  refine ASeq.go tab_ok mixed_ ?_
  conv => whnf
  refine ALoop.ofW tab_ok mixed_ (fun v5 => ⟨[(0, .sl (a0) 27 (a1)), (2, .nils), (3, .int .i64 (v5.fst)), (9, .sl (a0) 27 (a1)), (10, .int .i64 ((↑(List.length a1) : Int))), (11, .int .i64 (v5.snd))], [], 0, [], []⟩) (fun v6 => (.exit 0, ⟨[(0, .sl (a0) 27 (a1)), (2, .nils), (3, .int .i64 (v6))], [], 0, [], []⟩)) (W.bindE h) (Weak.a ?_) (fun v5 I Q h => ?_) (fun v6 h => ?_)
  · conv => whnf
    exact ⟨rfl, rfl, rfl, rfl, rfl⟩
  · conv => whnf
    refine ASeq.go tab_ok mixed_ ?_
    conv => whnf
    refine XSplit.mk (fun e => ?_) (fun e => ?_)
    · replace h := XSplit.t h e
      conv => whnf
      refine ASeq.go tab_ok mixed_ ?_
      conv => whnf
      refine XNeed.mk (XNeed.c h) ?_; replace h := XNeed.x h
      conv => whnf
      refine XSplit.mk (fun e => ?_) (fun e => ?_)
      · replace h := XSplit.t h e
        conv => whnf
        refine XNeed.mk (XNeed.c h) ?_; replace h := XNeed.x h
        conv => whnf
        exact trivial
      · replace h := XSplit.f h e
        conv => whnf
        refine ⟨_, Weak.a ?_, h⟩; (conv => whnf); exact ⟨rfl, rfl, rfl, rfl, rfl⟩
    · replace h := XSplit.f h e
      conv => whnf
      refine ⟨_, ?_, Weak.a ?_, h⟩; exact rfl; (conv => whnf); exact ⟨rfl, rfl, rfl, rfl, rfl⟩
  · conv => whnf
    refine ACalls.inn (c_slices_Grow___byte_byte__z (W.bindE h) (fun v7 h => ?_)) ⟨rfl, rfl⟩
    conv => whnf
    refine ASeq.go tab_ok mixed_ ?_
    conv => whnf
    refine ALoop.ofW tab_ok mixed_ (fun v8 => ⟨[(2, .nils), (6, .own 0), (25, .sl (a0) 27 (a1)), (26, .int .i64 ((↑(List.length a1) : Int))), (27, .int .i64 (v8.fst))], [(0, .arr true 5 (v8.snd.fst) (v8.snd.snd))], 1, [], []⟩) (fun v9 => (.exit 2, ⟨[(2, .nils), (6, .own 0)], [(0, .arr true 5 (v9.fst) (v9.snd))], 1, [], []⟩)) (W.bindE h) (Weak.a ?_) (fun v8 I Q h => ?_) (fun v9 h => ?_)
    · conv => whnf
      exact ⟨rfl, rfl, rfl, rfl, rfl⟩
    · conv => whnf
      refine ASeq.go tab_ok mixed_ ?_
      conv => whnf
      refine XSplit.mk (fun e => ?_) (fun e => ?_)
      · replace h := XSplit.t h e
        conv => whnf
        refine ASeq.go tab_ok mixed_ ?_
        conv => whnf
        refine XNeed.mk (XNeed.c h) ?_; replace h := XNeed.x h
        conv => whnf
        refine XNeed.mk (XNeed.c h) ?_; replace h := XNeed.x h
        conv => whnf
        refine ⟨_, Weak.a ?_, h⟩; (conv => whnf); exact ⟨rfl, rfl, rfl, rfl, rfl⟩
      · replace h := XSplit.f h e
        conv => whnf
        refine ⟨_, ?_, Weak.a ?_, h⟩; exact rfl; (conv => whnf); exact ⟨rfl, rfl, rfl, rfl, rfl⟩
    · conv => whnf
      refine ⟨_, Weak.a ?_, ?_, h⟩; (conv => whnf); exact ⟨rfl, rfl, rfl, rfl, rfl⟩; exact rfl

theorem c_wire_PutU {a0 : Bool} {a1 : Rws} {a2 : Int} {Q : Bool × Rws → Prop} {R : AV → List AB → Prop} (h : (g_wire_PutU a0 a1 a2).run Q) (k : ∀ r, Q r → R (.own 0) ([.arr true 5 (r.fst) (r.snd)])) : ACalls Try.prog tab 19 [.sl (a0) 5 (a1), .int .u64 (a2)] [] R := by
  refine ACalls.out (fun r => .own 0) (fun r => [.arr true 5 (r.fst) (r.snd)]) (Q := Q) (ACalls.introX (mv := mv) tab_ok mixed_ (fn := Try.f19) (by kernel_rfl) rfl (by kernel_rfl) (by kernel_rfl) (Nat.le_of_ble_eq_true rfl) ?_) (fun v => by first | exact ⟨rfl, Nat.le_of_ble_eq_true rfl⟩ | (cases v <;> exact ⟨rfl, Nat.le_of_ble_eq_true rfl⟩)) k
  conv => whnf
  refine XNeed.mk (of_decide_eq_true rfl) ?_
  conv => whnf
  refine ACalls.inn (c_slices_Concat___byte_byte_ (W.bindE h) (fun v3 h => ?_)) ⟨rfl, rfl⟩
  conv => whnf
  refine ASeq.go tab_ok mixed_ ?_
  conv => whnf
  refine ALoop.ofW tab_ok mixed_ (fun v4 => ⟨[(1, .int .u64 (v4.fst)), (4, .nils), (5, .own 0)], [(0, .arr true 5 (v4.snd.fst) (v4.snd.snd))], 1, [], []⟩) (fun v5 => (.exit 0, ⟨[(1, .int .u64 (v5.fst)), (4, .nils), (5, .own 0)], [(0, .arr true 5 (v5.snd.fst) (v5.snd.snd))], 1, [], []⟩)) (W.bindE h) (Weak.a ?_) (fun v4 I Q h => ?_) (fun v5 h => ?_)
  · conv => whnf
    exact ⟨rfl, rfl, rfl, rfl, rfl⟩
  · conv => whnf
    refine ASeq.go tab_ok mixed_ ?_
    conv => whnf
    refine XSplit.mk (fun e => ?_) (fun e => ?_)
    · replace h := XSplit.t h e
      conv => whnf
      refine ASeq.go tab_ok mixed_ ?_
      conv => whnf
      refine XNeed.mk (XNeed.c h) ?_; replace h := XNeed.x h
      conv => whnf
      refine XNeed.mk (of_decide_eq_true rfl) ?_
      conv => whnf
      refine ⟨_, Weak.a ?_, h⟩; (conv => whnf); exact ⟨rfl, rfl, rfl, rfl, rfl⟩
    · replace h := XSplit.f h e
      conv => whnf
      refine ⟨_, ?_, Weak.a ?_, h⟩; exact rfl; (conv => whnf); exact ⟨rfl, rfl, rfl, rfl, rfl⟩
  · conv => whnf
    refine XNeed.mk (XNeed.c h) ?_; replace h := XNeed.x h
    conv => whnf
    refine ⟨_, Weak.a ?_, ?_, h⟩; (conv => whnf); exact ⟨rfl, rfl, rfl, rfl, rfl⟩; exact rfl

theorem c_wire_PutS {a0 : Bool} {a1 : Rws} {a2 : Int} {Q : Bool × Rws → Prop} {R : AV → List AB → Prop} (h : (g_wire_PutS a0 a1 a2).run Q) (k : ∀ r, Q r → R (.own 0) ([.arr true 5 (r.fst) (r.snd)])) : ACalls Try.prog tab 38 [.sl (a0) 5 (a1), .int .i64 (a2)] [] R := by
  refine ACalls.out (fun r => .own 0) (fun r => [.arr true 5 (r.fst) (r.snd)]) (Q := Q) (ACalls.introX (mv := mv) tab_ok mixed_ (fn := Try.f38) (by kernel_rfl) rfl (by kernel_rfl) (by kernel_rfl) (Nat.le_of_ble_eq_true rfl) ?_) (fun v => by first | exact ⟨rfl, Nat.le_of_ble_eq_true rfl⟩ | (cases v <;> exact ⟨rfl, Nat.le_of_ble_eq_true rfl⟩)) k
  conv => whnf
  refine XNeed.mk (of_decide_eq_true rfl) ?_
  conv => whnf
  refine XNeed.mk (of_decide_eq_true rfl) ?_
  conv => whnf
  refine ACalls.inn (c_wire_PutU (W.bindE h) (fun v1 h => ?_)) ⟨rfl, rfl⟩
  conv => whnf
  refine ⟨_, Weak.a ?_, ?_, h⟩; (conv => whnf); exact ⟨rfl, rfl, rfl, rfl, rfl⟩; exact rfl

theorem c_seal_put_o {a0 : Bool} {a1 : Rws} {a2 : Bool} {a3 : Rws} {Q : Bool × Rws → Prop} {R : AV → List AB → Prop} (h : (g_seal_put_o a0 a1 a2 a3).run Q) (k : ∀ r, Q r → R (.own 0) ([.arr true 5 (r.fst) (r.snd)])) : ACalls Try.prog tab 18 [.own 0, .sl (a0) 43 (a1)] [.arr true 5 (a2) (a3)] R := by
  refine ACalls.out (fun r => .own 0) (fun r => [.arr true 5 (r.fst) (r.snd)]) (Q := Q) (ACalls.introX (mv := mv) tab_ok mixed_ (fn := Try.f18) (by kernel_rfl) rfl (by kernel_rfl) (by kernel_rfl) (Nat.le_of_ble_eq_true rfl) ?_) (fun v => by first | exact ⟨rfl, Nat.le_of_ble_eq_true rfl⟩ | (cases v <;> exact ⟨rfl, Nat.le_of_ble_eq_true rfl⟩)) k
  conv => whnf
  refine ASeq.go tab_ok mixed_ ?_
  conv => whnf
  refine ALoop.ofW tab_ok mixed_ (fun v4 => ⟨[(0, .own 0), (4, .nils), (7, .sl (a0) 43 (a1)), (8, .int .i64 ((↑(List.length a1) : Int))), (9, .int .i64 (v4.fst))], [(0, .arr true 5 (v4.snd.fst) (v4.snd.snd))], 1, [], []⟩) (fun v5 => (.exit 0, ⟨[(0, .own 0), (4, .nils)], [(0, .arr true 5 (v5.fst) (v5.snd))], 1, [], []⟩)) (W.bindE h) (Weak.a ?_) (fun v4 I Q h => ?_) (fun v5 h => ?_)
  · conv => whnf
    exact ⟨rfl, rfl, rfl, rfl, rfl⟩
  · conv => whnf
    refine ASeq.go tab_ok mixed_ ?_
    conv => whnf
    refine XSplit.mk (fun e => ?_) (fun e => ?_)
    · replace h := XSplit.t h e
      conv => whnf
      refine ASeq.go tab_ok mixed_ ?_
      conv => whnf
      refine XNeed.mk (XNeed.c h) ?_; replace h := XNeed.x h
      conv => whnf
      refine XDraw.d [0, 1, 2, 4, 5, 3, 6, 7, 8] [[], [], [], [], [], [], [2], [0], []] (by decide +kernel) ?_
      conv => whnf
      refine ACalls.inn (c_wire_PutS (W.bindE h) (fun v6 h => ?_)) ⟨rfl, rfl⟩
      conv => whnf
      refine ACalls.inn (c_wire_PutS (W.bindE h) (fun v7 h => ?_)) ⟨rfl, rfl⟩
      conv => whnf
      refine XNeed.mk (XNeed.c h) ?_; replace h := XNeed.x h
      conv => whnf
      refine ⟨_, Weak.a ?_, h⟩; (conv => whnf); exact ⟨rfl, rfl, rfl, rfl, rfl⟩
    · replace h := XSplit.f h e
      conv => whnf
      refine ⟨_, ?_, Weak.a ?_, h⟩; exact rfl; (conv => whnf); exact ⟨rfl, rfl, rfl, rfl, rfl⟩
  · conv => whnf
    refine ⟨_, Weak.a ?_, ?_, h⟩; (conv => whnf); exact ⟨rfl, rfl, rfl, rfl, rfl⟩; exact rfl

theorem c_seal_Encode {a0 : Bool} {a1 : Rws} {a2 : Bool} {a3 : Rws} {Q : Int × Int × Int × Bool × Rws → Prop} {R : AV → List AB → Prop} (h : (g_seal_Encode a0 a1 a2 a3).run Q) (k : ∀ r, Q r → R (.tup [.own 0, .agg [.int .i64 (r.fst), .int .i64 (r.snd.fst), .int .i64 (r.snd.snd.fst)]]) ([.arr true 5 (r.snd.snd.snd.fst) (r.snd.snd.snd.snd)])) : ACalls Try.prog tab 9 [.agg [.sl (a0) 43 (a1), .sl (a2) 44 (a3)]] [] R := by
  refine ACalls.out (fun r => .tup [.own 0, .agg [.int .i64 (r.fst), .int .i64 (r.snd.fst), .int .i64 (r.snd.snd.fst)]]) (fun r => [.arr true 5 (r.snd.snd.snd.fst) (r.snd.snd.snd.snd)]) (Q := Q) (ACalls.introX (mv := mv) tab_ok mixed_ (fn := Try.f9) (by kernel_rfl) rfl (by kernel_rfl) (by kernel_rfl) (Nat.le_of_ble_eq_true rfl) ?_) (fun v => by first | exact ⟨rfl, Nat.le_of_ble_eq_true rfl⟩ | (cases v <;> exact ⟨rfl, Nat.le_of_ble_eq_true rfl⟩)) k
  conv => whnf
  refine ASeq.go tab_ok mixed_ ?_
  conv => whnf
  refine ACalls.inn (c_seal_check (W.bindE h) (fun v12 h => ?_)) ⟨rfl, rfl⟩
  conv => whnf
  refine XSplit.mk (fun e => ?_) (fun e => ?_)
  · replace h := XSplit.t h e
    conv => whnf
    refine XDraw.d [0, 1, 2] [[], [], [1]] (by decide +kernel) ?_
    conv => whnf
    refine ⟨_, Weak.a ?_, ?_, h⟩; (conv => whnf); exact ⟨rfl, rfl, rfl, rfl, rfl⟩; exact rfl
  · replace h := XSplit.f h e
    conv => whnf
    refine XDraw.d [2, 3, 4, 5, 7, 8, 0, 1, 6, 9, 10] [[], [3], [], [], [], [3], [3, 3], [], [], [3], []] (by decide +kernel) ?_
    conv => whnf
    refine ACalls.inn (c_wire_PutU (W.bindE h) (fun v13 h => ?_)) ⟨rfl, rfl⟩
    conv => whnf
    refine ACalls.inn (c_seal_put_o (W.bindE h) (fun v14 h => ?_)) ⟨rfl, rfl⟩
    conv => whnf
    refine ACalls.inn (c_wire_PutU (W.bindE h) (fun v15 h => ?_)) ⟨rfl, rfl⟩
    conv => whnf
    refine ASeq.go tab_ok mixed_ ?_
    conv => whnf
    refine ALoop.ofW tab_ok mixed_ (fun v16 => ⟨[(2, .nils), (3, .ptr 0 0), (5, .own 1), (33, .sl (a2) 44 (a3)), (34, .int .i64 ((↑(List.length a3) : Int))), (35, .int .i64 (v16.fst))], [(0, .box 30 [.int .i64 (0), .int .i64 (0), .int .i64 (0)]), (1, .arr true 5 (v16.snd.fst) (v16.snd.snd))], 2, [], []⟩) (fun v17 => (.exit 0, ⟨[(2, .nils), (3, .ptr 0 0), (5, .own 1)], [(0, .box 30 [.int .i64 (0), .int .i64 (0), .int .i64 (0)]), (1, .arr true 5 (v17.fst) (v17.snd))], 2, [], []⟩)) (W.bindE h) (Weak.a ?_) (fun v16 I Q h => ?_) (fun v17 h => ?_)
    · conv => whnf
      exact ⟨rfl, rfl, rfl, rfl, rfl⟩
    · conv => whnf
      refine ASeq.go tab_ok mixed_ ?_
      conv => whnf
      refine XSplit.mk (fun e => ?_) (fun e => ?_)
      · replace h := XSplit.t h e
        conv => whnf
        refine ASeq.go tab_ok mixed_ ?_
        conv => whnf
        refine XNeed.mk (XNeed.c h) ?_; replace h := XNeed.x h
        conv => whnf
        refine ACalls.inn (c_wire_PutU (W.bindE h) (fun v18 h => ?_)) ⟨rfl, rfl⟩
        conv => whnf
        refine ALoop.ofW tab_ok mixed_ (fun v19 => ⟨[(2, .nils), (3, .ptr 0 0), (5, .own 1), (7, .sl (rn a3 v16.fst.toNat 0) 46 (rr a3 v16.fst.toNat 0)), (33, .sl (a2) 44 (a3)), (34, .int .i64 ((↑(List.length a3) : Int))), (35, .int .i64 (v16.fst)), (36, .bool (decide (v16.fst < (↑(List.length a3) : Int)))), (37, .rel 44 (a3) (v16.fst.toNat) 0), (38, .sl (rn a3 v16.fst.toNat 0) 46 (rr a3 v16.fst.toNat 0)), (39, .own 2), (40, .sl (rn a3 v16.fst.toNat 0) 46 (rr a3 v16.fst.toNat 0)), (41, .int .i64 ((↑(List.length (rr a3 v16.fst.toNat 0)) : Int))), (42, .int .u64 (IntKind.u64.wrap (↑(List.length (rr a3 v16.fst.toNat 0)) : Int))), (44, .sl (rn a3 v16.fst.toNat 0) 46 (rr a3 v16.fst.toNat 0)), (45, .int .i64 ((↑(List.length (rr a3 v16.fst.toNat 0)) : Int))), (46, .int .i64 (v19.fst))], [(0, .box 30 [.int .i64 (0), .int .i64 (0), .int .i64 (0)]), (1, .arr true 5 (v19.snd.fst) (v19.snd.snd)), (2, .arr true 5 (v16.snd.fst) (v16.snd.snd))], 3, [], []⟩) (fun v20 => (.exit 2, ⟨[(2, .nils), (3, .ptr 0 0), (5, .own 1), (7, .sl (rn a3 v16.fst.toNat 0) 46 (rr a3 v16.fst.toNat 0)), (33, .sl (a2) 44 (a3)), (34, .int .i64 ((↑(List.length a3) : Int))), (35, .int .i64 (v16.fst)), (36, .bool (decide (v16.fst < (↑(List.length a3) : Int)))), (37, .rel 44 (a3) (v16.fst.toNat) 0), (38, .sl (rn a3 v16.fst.toNat 0) 46 (rr a3 v16.fst.toNat 0)), (39, .own 2), (40, .sl (rn a3 v16.fst.toNat 0) 46 (rr a3 v16.fst.toNat 0)), (41, .int .i64 ((↑(List.length (rr a3 v16.fst.toNat 0)) : Int))), (42, .int .u64 (IntKind.u64.wrap (↑(List.length (rr a3 v16.fst.toNat 0)) : Int))), (44, .sl (rn a3 v16.fst.toNat 0) 46 (rr a3 v16.fst.toNat 0)), (45, .int .i64 ((↑(List.length (rr a3 v16.fst.toNat 0)) : Int))), (46, .int .i64 (v20.fst)), (47, .bool (v20.snd.fst))], [(0, .box 30 [.int .i64 (0), .int .i64 (0), .int .i64 (0)]), (1, .arr true 5 (v20.snd.snd.fst) (v20.snd.snd.snd)), (2, .arr true 5 (v16.snd.fst) (v16.snd.snd))], 3, [], []⟩)) (W.bindE h) (Weak.a ?_) (fun v19 I Q h => ?_) (fun v20 h => ?_)
        · conv => whnf
          exact ⟨rfl, rfl, rfl, rfl, rfl⟩
        · conv => whnf
          refine ASeq.go tab_ok mixed_ ?_
          conv => whnf
          refine XSplit.mk (fun e => ?_) (fun e => ?_)
          · replace h := XSplit.t h e
            conv => whnf
            refine ASeq.go tab_ok mixed_ ?_
            conv => whnf
            refine XNeed.mk (XNeed.c h) ?_; replace h := XNeed.x h
            conv => whnf
            refine XDraw.d [0, 1, 2, 3, 5, 6, 7, 4, 8, 9, 10] [[], [], [], [4], [], [], [], [4], [4], [1], []] (by decide +kernel) ?_
            conv => whnf
            refine ACalls.inn (c_wire_PutU (W.bindE h) (fun v21 h => ?_)) ⟨rfl, rfl⟩
            conv => whnf
            refine ACalls.inn (c_wire_PutU (W.bindE h) (fun v22 h => ?_)) ⟨rfl, rfl⟩
            conv => whnf
            refine XNeed.mk (XNeed.c h) ?_; replace h := XNeed.x h
            conv => whnf
            refine ACalls.inn (c_seal_put_o (W.bindE h) (fun v23 h => ?_)) ⟨rfl, rfl⟩
            conv => whnf
            refine ⟨_, Weak.a ?_, h⟩; (conv => whnf); exact ⟨rfl, rfl, rfl, rfl, rfl⟩
          · replace h := XSplit.f h e
            conv => whnf
            refine ⟨_, ?_, Weak.a ?_, h⟩; exact rfl; (conv => whnf); exact ⟨rfl, rfl, rfl, rfl, rfl⟩
        · conv => whnf
          refine ⟨_, Weak.a ?_, h⟩; (conv => whnf); exact ⟨rfl, rfl, rfl, rfl, rfl⟩
      · replace h := XSplit.f h e
        conv => whnf
        refine ⟨_, ?_, Weak.a ?_, h⟩; exact rfl; (conv => whnf); exact ⟨rfl, rfl, rfl, rfl, rfl⟩
    · conv => whnf
      refine ⟨_, Weak.a ?_, ?_, h⟩; (conv => whnf); exact ⟨rfl, rfl, rfl, rfl, rfl⟩; exact rfl

theorem c_ref16_whole {a0 : Int} {Q : Bool → Prop} {R : AV → List AB → Prop} (h : (g_ref16_whole a0).run Q) (k : ∀ r, Q r → R (.bool (r)) ([])) : ACalls Try.prog tab 20 [.int .i64 (a0)] [] R := by
  refine ACalls.out (fun r => .bool (r)) (fun r => []) (Q := Q) (ACalls.introX (mv := mv) tab_ok mixed_ (fn := Try.f20) (by kernel_rfl) rfl (by kernel_rfl) (by kernel_rfl) (Nat.le_of_ble_eq_true rfl) ?_) (fun v => by first | exact ⟨rfl, Nat.le_of_ble_eq_true rfl⟩ | (cases v <;> exact ⟨rfl, Nat.le_of_ble_eq_true rfl⟩)) k
  conv => whnf
  refine ⟨_, Weak.a ?_, ?_, h⟩; (conv => whnf); exact ⟨rfl, rfl, rfl, rfl, rfl⟩; exact rfl

theorem c_ref04_U {a0 : Int} {Q : Bool × Rws → Prop} {R : AV → List AB → Prop} (h : (g_ref04_U a0).run Q) (k : ∀ r, Q r → R (.own 0) ([.arr true 5 (r.fst) (r.snd)])) : ACalls Try.prog tab 53 [.int .u64 (a0)] [] R := by
  refine ACalls.out (fun r => .own 0) (fun r => [.arr true 5 (r.fst) (r.snd)]) (Q := Q) (ACalls.introX (mv := mv) tab_ok mixed_ (fn := Try.f53) (by kernel_rfl) rfl (by kernel_rfl) (by kernel_rfl) (Nat.le_of_ble_eq_true rfl) ?_) (fun v => by first | exact ⟨rfl, Nat.le_of_ble_eq_true rfl⟩ | (cases v <;> exact ⟨rfl, Nat.le_of_ble_eq_true rfl⟩)) k
  conv => whnf
  refine ASeq.go tab_ok mixed_ ?_
  conv => whnf
  refine ALoop.ofW tab_ok mixed_ (fun v2 => ⟨[(0, .int .u64 (v2.fst)), (2, .nils), (3, .own 0)], [(0, .arr true 5 (v2.snd.fst) (v2.snd.snd))], 1, [], []⟩) (fun v3 => (.exit 0, ⟨[(0, .int .u64 (v3.fst)), (2, .nils), (3, .own 0)], [(0, .arr true 5 (v3.snd.fst) (v3.snd.snd))], 1, [], []⟩)) (W.bindE h) (Weak.a ?_) (fun v2 I Q h => ?_) (fun v3 h => ?_)
  · conv => whnf
    exact ⟨rfl, rfl, rfl, rfl, rfl⟩
  · conv => whnf
    refine ASeq.go tab_ok mixed_ ?_
    conv => whnf
    refine XSplit.mk (fun e => ?_) (fun e => ?_)
    · replace h := XSplit.t h e
      conv => whnf
      refine XNeed.mk (of_decide_eq_true rfl) ?_
      conv => whnf
      refine XNeed.mk (XNeed.c h) ?_; replace h := XNeed.x h
      conv => whnf
      refine XNeed.mk (of_decide_eq_true rfl) ?_
      conv => whnf
      refine ⟨_, Weak.a ?_, h⟩; (conv => whnf); exact ⟨rfl, rfl, rfl, rfl, rfl⟩
    · replace h := XSplit.f h e
      conv => whnf
      refine ⟨_, ?_, Weak.a ?_, h⟩; exact rfl; (conv => whnf); exact ⟨rfl, rfl, rfl, rfl, rfl⟩
  · conv => whnf
    refine XNeed.mk (XNeed.c h) ?_; replace h := XNeed.x h
    conv => whnf
    refine ⟨_, Weak.a ?_, ?_, h⟩; (conv => whnf); exact ⟨rfl, rfl, rfl, rfl, rfl⟩; exact rfl

theorem c_ref16_count_o {a0 : Int} {a1 : Bool} {a2 : Rws} {Q : Bool × Rws → Prop} {R : AV → List AB → Prop} (h : (g_ref16_count_o a0 a1 a2).run Q) (k : ∀ r, Q r → R (.own 0) ([.arr true 5 (r.fst) (r.snd)])) : ACalls Try.prog tab 40 [.own 0, .int .i64 (a0)] [.arr true 5 (a1) (a2)] R := by
  refine ACalls.out (fun r => .own 0) (fun r => [.arr true 5 (r.fst) (r.snd)]) (Q := Q) (ACalls.introX (mv := mv) tab_ok mixed_ (fn := Try.f40) (by kernel_rfl) rfl (by kernel_rfl) (by kernel_rfl) (Nat.le_of_ble_eq_true rfl) ?_) (fun v => by first | exact ⟨rfl, Nat.le_of_ble_eq_true rfl⟩ | (cases v <;> exact ⟨rfl, Nat.le_of_ble_eq_true rfl⟩)) k
  conv => whnf
  refine ACalls.inn (c_ref04_U (W.bindE h) (fun v1 h => ?_)) ⟨rfl, rfl⟩
  conv => whnf
  refine XNeed.mk (XNeed.c h) ?_; replace h := XNeed.x h
  conv => whnf
  refine ⟨_, Weak.a ?_, ?_, h⟩; (conv => whnf); exact ⟨rfl, rfl, rfl, rfl, rfl⟩; exact rfl

theorem c_ref04_Fold {a0 : Int} {Q : Int → Prop} {R : AV → List AB → Prop} (h : (g_ref04_Fold a0).run Q) (k : ∀ r, Q r → R (.int .u64 (r)) ([])) : ACalls Try.prog tab 63 [.int .i64 (a0)] [] R := by
  refine ACalls.out (fun r => .int .u64 (r)) (fun r => []) (Q := Q) (ACalls.introX (mv := mv) tab_ok mixed_ (fn := Try.f63) (by kernel_rfl) rfl (by kernel_rfl) (by kernel_rfl) (Nat.le_of_ble_eq_true rfl) ?_) (fun v => by first | exact ⟨rfl, Nat.le_of_ble_eq_true rfl⟩ | (cases v <;> exact ⟨rfl, Nat.le_of_ble_eq_true rfl⟩)) k
  conv => whnf
  refine ASeq.go tab_ok mixed_ ?_
  conv => whnf
  refine XSplit.mk (fun e => ?_) (fun e => ?_)
  · replace h := XSplit.t h e
    conv => whnf
    refine ⟨_, Weak.a ?_, ?_, h⟩; (conv => whnf); exact ⟨rfl, rfl, rfl, rfl, rfl⟩; exact rfl
  · replace h := XSplit.f h e
    conv => whnf
    refine ⟨_, Weak.a ?_, ?_, h⟩; (conv => whnf); exact ⟨rfl, rfl, rfl, rfl, rfl⟩; exact rfl

theorem c_ref04_S {a0 : Int} {Q : Bool × Rws → Prop} {R : AV → List AB → Prop} (h : (g_ref04_S a0).run Q) (k : ∀ r, Q r → R (.own 0) ([.arr true 5 (r.fst) (r.snd)])) : ACalls Try.prog tab 54 [.int .i64 (a0)] [] R := by
  refine ACalls.out (fun r => .own 0) (fun r => [.arr true 5 (r.fst) (r.snd)]) (Q := Q) (ACalls.introX (mv := mv) tab_ok mixed_ (fn := Try.f54) (by kernel_rfl) rfl (by kernel_rfl) (by kernel_rfl) (Nat.le_of_ble_eq_true rfl) ?_) (fun v => by first | exact ⟨rfl, Nat.le_of_ble_eq_true rfl⟩ | (cases v <;> exact ⟨rfl, Nat.le_of_ble_eq_true rfl⟩)) k
  conv => whnf
  refine ACalls.inn (c_ref04_Fold (W.bindE h) (fun v2 h => ?_)) ⟨rfl, rfl⟩
  conv => whnf
  refine ACalls.inn (c_ref04_U (W.bindE h) (fun v3 h => ?_)) ⟨rfl, rfl⟩
  conv => whnf
  refine ⟨_, Weak.a ?_, ?_, h⟩; (conv => whnf); exact ⟨rfl, rfl, rfl, rfl, rfl⟩; exact rfl

theorem c_ref16_ends_o {a0 : Int} {a1 : Int} {a2 : Bool} {a3 : Rws} {Q : Bool × Rws → Prop} {R : AV → List AB → Prop} (h : (g_ref16_ends_o a0 a1 a2 a3).run Q) (k : ∀ r, Q r → R (.own 0) ([.arr true 5 (r.fst) (r.snd)])) : ACalls Try.prog tab 41 [.own 0, .agg [.int .i64 (a0), .int .i64 (a1)]] [.arr true 5 (a2) (a3)] R := by
  refine ACalls.out (fun r => .own 0) (fun r => [.arr true 5 (r.fst) (r.snd)]) (Q := Q) (ACalls.introX (mv := mv) tab_ok mixed_ (fn := Try.f41) (by kernel_rfl) rfl (by kernel_rfl) (by kernel_rfl) (Nat.le_of_ble_eq_true rfl) ?_) (fun v => by first | exact ⟨rfl, Nat.le_of_ble_eq_true rfl⟩ | (cases v <;> exact ⟨rfl, Nat.le_of_ble_eq_true rfl⟩)) k
  conv => whnf
  refine ACalls.inn (c_ref04_S (W.bindE h) (fun v2 h => ?_)) ⟨rfl, rfl⟩
  conv => whnf
  refine XNeed.mk (XNeed.c h) ?_; replace h := XNeed.x h
  conv => whnf
  refine ACalls.inn (c_ref04_S (W.bindE h) (fun v3 h => ?_)) ⟨rfl, rfl⟩
  conv => whnf
  refine XNeed.mk (XNeed.c h) ?_; replace h := XNeed.x h
  conv => whnf
  refine ⟨_, Weak.a ?_, ?_, h⟩; (conv => whnf); exact ⟨rfl, rfl, rfl, rfl, rfl⟩; exact rfl

theorem c_ref16_Bytes {a0 : Bool} {a1 : Rws} {a2 : Bool} {a3 : Rws} {Q : Bool × Rws → Prop} {R : AV → List AB → Prop} (h : (g_ref16_Bytes a0 a1 a2 a3).run Q) (k : ∀ r, Q r → R (.own 0) ([.arr true 5 (r.fst) (r.snd)])) : ACalls Try.prog tab 21 [.agg [.sl (a0) 43 (a1), .sl (a2) 44 (a3)]] [] R := by
  refine ACalls.out (fun r => .own 0) (fun r => [.arr true 5 (r.fst) (r.snd)]) (Q := Q) (ACalls.introX (mv := mv) tab_ok mixed_ (fn := Try.f21) (by kernel_rfl) rfl (by kernel_rfl) (by kernel_rfl) (Nat.le_of_ble_eq_true rfl) ?_) (fun v => by first | exact ⟨rfl, Nat.le_of_ble_eq_true rfl⟩ | (cases v <;> exact ⟨rfl, Nat.le_of_ble_eq_true rfl⟩)) k
  conv => whnf
  refine ACalls.inn (c_ref16_count_o (W.bindE h) (fun v14 h => ?_)) ⟨rfl, rfl⟩
  conv => whnf
  refine ASeq.go tab_ok mixed_ ?_
  conv => whnf
  refine ALoop.ofW tab_ok mixed_ (fun v15 => ⟨[(1, .ptr 0 0), (2, .nils), (3, .own 1), (17, .sl (a0) 43 (a1)), (18, .int .i64 ((↑(List.length a1) : Int))), (19, .int .i64 (v15.fst))], [(0, .box 25 [.sl (a0) 43 (a1), .sl (a2) 44 (a3)]), (1, .arr true 5 (v15.snd.fst) (v15.snd.snd))], 2, [], []⟩) (fun v16 => (.exit 0, ⟨[(1, .ptr 0 0), (2, .nils), (3, .own 1)], [(0, .box 25 [.sl (a0) 43 (a1), .sl (a2) 44 (a3)]), (1, .arr true 5 (v16.fst) (v16.snd))], 2, [], []⟩)) (W.bindE h) (Weak.a ?_) (fun v15 I Q h => ?_) (fun v16 h => ?_)
  · conv => whnf
    exact ⟨rfl, rfl, rfl, rfl, rfl⟩
  · conv => whnf
    refine ASeq.go tab_ok mixed_ ?_
    conv => whnf
    refine XSplit.mk (fun e => ?_) (fun e => ?_)
    · replace h := XSplit.t h e
      conv => whnf
      refine ASeq.go tab_ok mixed_ ?_
      conv => whnf
      refine XNeed.mk (XNeed.c h) ?_; replace h := XNeed.x h
      conv => whnf
      refine ACalls.inn (c_ref16_ends_o (W.bindE h) (fun v17 h => ?_)) ⟨rfl, rfl⟩
      conv => whnf
      refine ⟨_, Weak.a ?_, h⟩; (conv => whnf); exact ⟨rfl, rfl, rfl, rfl, rfl⟩
    · replace h := XSplit.f h e
      conv => whnf
      refine ⟨_, ?_, Weak.a ?_, h⟩; exact rfl; (conv => whnf); exact ⟨rfl, rfl, rfl, rfl, rfl⟩
  · conv => whnf
    refine ACalls.inn (c_ref16_count_o (W.bindE h) (fun v18 h => ?_)) ⟨rfl, rfl⟩
    conv => whnf
    refine ASeq.go tab_ok mixed_ ?_
    conv => whnf
    refine ALoop.ofW tab_ok mixed_ (fun v19 => ⟨[(2, .nils), (3, .own 0), (33, .sl (a2) 44 (a3)), (34, .int .i64 ((↑(List.length a3) : Int))), (35, .int .i64 (v19.fst))], [(0, .arr true 5 (v19.snd.fst) (v19.snd.snd))], 1, [], []⟩) (fun v20 => (.exit 2, ⟨[(2, .nils), (3, .own 0)], [(0, .arr true 5 (v20.fst) (v20.snd))], 1, [], []⟩)) (W.bindE h) (Weak.a ?_) (fun v19 I Q h => ?_) (fun v20 h => ?_)
    · conv => whnf
      exact ⟨rfl, rfl, rfl, rfl, rfl⟩
    · conv => whnf
      refine ASeq.go tab_ok mixed_ ?_
      conv => whnf
      refine XSplit.mk (fun e => ?_) (fun e => ?_)
      · replace h := XSplit.t h e
        conv => whnf
        refine ASeq.go tab_ok mixed_ ?_
        conv => whnf
        refine XNeed.mk (XNeed.c h) ?_; replace h := XNeed.x h
        conv => whnf
        refine ACalls.inn (c_ref16_count_o (W.bindE h) (fun v21 h => ?_)) ⟨rfl, rfl⟩
        conv => whnf
        refine ALoop.ofW tab_ok mixed_ (fun v22 => ⟨[(2, .nils), (3, .own 0), (7, .sl (rn a3 v19.fst.toNat 0) 46 (rr a3 v19.fst.toNat 0)), (33, .sl (a2) 44 (a3)), (34, .int .i64 ((↑(List.length a3) : Int))), (35, .int .i64 (v19.fst)), (36, .bool (decide (v19.fst < (↑(List.length a3) : Int)))), (37, .rel 44 (a3) (v19.fst.toNat) 0), (38, .sl (rn a3 v19.fst.toNat 0) 46 (rr a3 v19.fst.toNat 0)), (39, .own 1), (40, .sl (rn a3 v19.fst.toNat 0) 46 (rr a3 v19.fst.toNat 0)), (41, .int .i64 ((↑(List.length (rr a3 v19.fst.toNat 0)) : Int))), (43, .sl (rn a3 v19.fst.toNat 0) 46 (rr a3 v19.fst.toNat 0)), (44, .int .i64 ((↑(List.length (rr a3 v19.fst.toNat 0)) : Int))), (45, .int .i64 (v22.fst))], [(0, .arr true 5 (v22.snd.fst) (v22.snd.snd)), (1, .gone)], 2, [], []⟩) (fun v23 => (.exit 4, ⟨[(2, .nils), (3, .own 0), (7, .sl (rn a3 v19.fst.toNat 0) 46 (rr a3 v19.fst.toNat 0)), (33, .sl (a2) 44 (a3)), (34, .int .i64 ((↑(List.length a3) : Int))), (35, .int .i64 (v19.fst)), (36, .bool (decide (v19.fst < (↑(List.length a3) : Int)))), (37, .rel 44 (a3) (v19.fst.toNat) 0), (38, .sl (rn a3 v19.fst.toNat 0) 46 (rr a3 v19.fst.toNat 0)), (39, .own 1), (40, .sl (rn a3 v19.fst.toNat 0) 46 (rr a3 v19.fst.toNat 0)), (41, .int .i64 ((↑(List.length (rr a3 v19.fst.toNat 0)) : Int))), (43, .sl (rn a3 v19.fst.toNat 0) 46 (rr a3 v19.fst.toNat 0)), (44, .int .i64 ((↑(List.length (rr a3 v19.fst.toNat 0)) : Int))), (45, .int .i64 (v23.fst)), (46, .bool (v23.snd.fst))], [(0, .arr true 5 (v23.snd.snd.fst) (v23.snd.snd.snd)), (1, .gone)], 2, [], []⟩)) (W.bindE h) (Weak.a ?_) (fun v22 I Q h => ?_) (fun v23 h => ?_)
        · conv => whnf
          exact ⟨rfl, rfl, rfl, rfl, rfl⟩
        · conv => whnf
          refine ASeq.go tab_ok mixed_ ?_
          conv => whnf
          refine XSplit.mk (fun e => ?_) (fun e => ?_)
          · replace h := XSplit.t h e
            conv => whnf
            refine ASeq.go tab_ok mixed_ ?_
            conv => whnf
            refine XNeed.mk (XNeed.c h) ?_; replace h := XNeed.x h
            conv => whnf
            refine ACalls.inn (c_ref16_count_o (W.bindE h) (fun v24 h => ?_)) ⟨rfl, rfl⟩
            conv => whnf
            refine ACalls.inn (c_ref16_count_o (W.bindE h) (fun v25 h => ?_)) ⟨rfl, rfl⟩
            conv => whnf
            refine ACalls.inn (c_ref16_ends_o (W.bindE h) (fun v26 h => ?_)) ⟨rfl, rfl⟩
            conv => whnf
            refine ACalls.inn (c_ref16_ends_o (W.bindE h) (fun v27 h => ?_)) ⟨rfl, rfl⟩
            conv => whnf
            refine ⟨_, Weak.a ?_, h⟩; (conv => whnf); exact ⟨rfl, rfl, rfl, rfl, rfl⟩
          · replace h := XSplit.f h e
            conv => whnf
            refine ⟨_, ?_, Weak.a ?_, h⟩; exact rfl; (conv => whnf); exact ⟨rfl, rfl, rfl, rfl, rfl⟩
        · conv => whnf
          refine ⟨_, Weak.a ?_, h⟩; (conv => whnf); exact ⟨rfl, rfl, rfl, rfl, rfl⟩
      · replace h := XSplit.f h e
        conv => whnf
        refine ⟨_, ?_, Weak.a ?_, h⟩; exact rfl; (conv => whnf); exact ⟨rfl, rfl, rfl, rfl, rfl⟩
    · conv => whnf
      refine ⟨_, Weak.a ?_, ?_, h⟩; (conv => whnf); exact ⟨rfl, rfl, rfl, rfl, rfl⟩; exact rfl

theorem c_ref16_Encode {a0 : Bool} {a1 : Rws} {a2 : Bool} {a3 : Rws} {Q : Int × Int × Int × Bool × Rws → Prop} {R : AV → List AB → Prop} (h : (g_ref16_Encode a0 a1 a2 a3).run Q) (k : ∀ r, Q r → R (.tup [.own 0, .agg [.int .i64 (r.fst), .int .i64 (r.snd.fst), .int .i64 (r.snd.snd.fst)]]) ([.arr true 5 (r.snd.snd.snd.fst) (r.snd.snd.snd.snd)])) : ACalls Try.prog tab 10 [.agg [.sl (a0) 43 (a1), .sl (a2) 44 (a3)]] [] R := by
  refine ACalls.out (fun r => .tup [.own 0, .agg [.int .i64 (r.fst), .int .i64 (r.snd.fst), .int .i64 (r.snd.snd.fst)]]) (fun r => [.arr true 5 (r.snd.snd.snd.fst) (r.snd.snd.snd.snd)]) (Q := Q) (ACalls.introX (mv := mv) tab_ok mixed_ (fn := Try.f10) (by kernel_rfl) rfl (by kernel_rfl) (by kernel_rfl) (Nat.le_of_ble_eq_true rfl) ?_) (fun v => by first | exact ⟨rfl, Nat.le_of_ble_eq_true rfl⟩ | (cases v <;> exact ⟨rfl, Nat.le_of_ble_eq_true rfl⟩)) k
  conv => whnf
  refine ASeq.go tab_ok mixed_ ?_
  conv => whnf
  refine XSplit.mk (fun e => ?_) (fun e => ?_)
  · replace h := XSplit.t h e
    conv => whnf
    refine ⟨_, Weak.a ?_, ?_, h⟩; (conv => whnf); exact ⟨rfl, rfl, rfl, rfl, rfl⟩; exact rfl
  · replace h := XSplit.f h e
    conv => whnf
    refine ASeq.go tab_ok mixed_ ?_
    conv => whnf
    refine ALoop.ofW tab_ok mixed_ (fun v10 => ⟨[(1, .ptr 0 0), (2, .nils), (3, .ptr 1 0), (20, .sl (a2) 44 (a3)), (21, .int .i64 ((↑(List.length a3) : Int))), (22, .int .i64 (v10))], [(0, .box 25 [.sl (a0) 43 (a1), .sl (a2) 44 (a3)]), (1, .box 30 [.int .i64 (0), .int .i64 (0), .int .i64 (0)])], 2, [], []⟩) (sx (fun v11 => (.ret, ⟨[(1, .ptr 0 0), (2, .nils), (3, .ptr 1 0)], [(0, .box 25 [.sl (a0) 43 (a1), .sl (a2) 44 (a3)]), (1, .box 30 [.int .i64 (v11.fst), .int .i64 (v11.snd.fst), .int .i64 (v11.snd.snd)])], 2, [], []⟩)) (fun v12 => (.exit 0, ⟨[(1, .ptr 0 0), (2, .nils), (3, .ptr 1 0)], [(0, .box 25 [.sl (a0) 43 (a1), .sl (a2) 44 (a3)]), (1, .box 30 [.int .i64 (0), .int .i64 (0), .int .i64 (0)])], 2, [], []⟩))) (W.bindE h) (Weak.a ?_) (fun v10 I Q h => ?_) (fun v h => ?_)
    · conv => whnf
      exact ⟨rfl, rfl, rfl, rfl, rfl⟩
    · conv => whnf
      refine ASeq.go tab_ok mixed_ ?_
      conv => whnf
      refine XSplit.mk (fun e => ?_) (fun e => ?_)
      · replace h := XSplit.t h e
        conv => whnf
        refine ASeq.go tab_ok mixed_ ?_
        conv => whnf
        refine XNeed.mk (XNeed.c h) ?_; replace h := XNeed.x h
        conv => whnf
        refine ASeq.go tab_ok mixed_ ?_
        conv => whnf
        refine XSplit.mk (fun e => ?_) (fun e => ?_)
        · replace h := XSplit.t h e
          conv => whnf
          refine ⟨_, ?_, Weak.a ?_, h⟩; exact rfl; (conv => whnf); exact ⟨rfl, rfl, rfl, rfl, rfl⟩
        · replace h := XSplit.f h e
          conv => whnf
          refine ALoop.ofW tab_ok mixed_ (fun v13 => ⟨[(1, .ptr 0 0), (2, .nils), (3, .ptr 1 0), (4, .int .i64 (v10)), (5, .sl (rn a3 v10.toNat 0) 46 (rr a3 v10.toNat 0)), (20, .sl (a2) 44 (a3)), (21, .int .i64 ((↑(List.length a3) : Int))), (22, .int .i64 (v10)), (23, .bool (decide (v10 < (↑(List.length a3) : Int)))), (24, .int .i64 (v10)), (25, .rel 44 (a3) (v10.toNat) 0), (26, .sl (rn a3 v10.toNat 0) 46 (rr a3 v10.toNat 0)), (27, .sl (rn a3 v10.toNat 0) 46 (rr a3 v10.toNat 0)), (28, .int .i64 ((↑(List.length (rr a3 v10.toNat 0)) : Int))), (29, .bool (decide (1024 < (↑(List.length (rr a3 v10.toNat 0)) : Int)))), (33, .sl (rn a3 v10.toNat 0) 46 (rr a3 v10.toNat 0)), (34, .int .i64 ((↑(List.length (rr a3 v10.toNat 0)) : Int))), (35, .int .i64 (v13))], [(0, .box 25 [.sl (a0) 43 (a1), .sl (a2) 44 (a3)]), (1, .box 30 [.int .i64 (0), .int .i64 (0), .int .i64 (0)])], 2, [], []⟩) (sx (fun v14 => (.ret, ⟨[(1, .ptr 0 0), (2, .nils), (3, .ptr 1 0), (4, .int .i64 (v10)), (5, .sl (rn a3 v10.toNat 0) 46 (rr a3 v10.toNat 0)), (6, .int .i64 (v14.fst)), (7, .ptr 2 0), (20, .sl (a2) 44 (a3)), (21, .int .i64 ((↑(List.length a3) : Int))), (22, .int .i64 (v10)), (23, .bool (decide (v10 < (↑(List.length a3) : Int)))), (24, .int .i64 (v10)), (25, .rel 44 (a3) (v10.toNat) 0), (26, .sl (rn a3 v10.toNat 0) 46 (rr a3 v10.toNat 0)), (27, .sl (rn a3 v10.toNat 0) 46 (rr a3 v10.toNat 0)), (28, .int .i64 ((↑(List.length (rr a3 v10.toNat 0)) : Int))), (29, .bool (decide (1024 < (↑(List.length (rr a3 v10.toNat 0)) : Int)))), (33, .sl (rn a3 v10.toNat 0) 46 (rr a3 v10.toNat 0)), (34, .int .i64 ((↑(List.length (rr a3 v10.toNat 0)) : Int))), (35, .int .i64 (v14.snd.fst)), (36, .bool (v14.snd.snd.fst)), (37, .int .i64 (v14.snd.snd.snd.fst)), (38, .rel 46 (rr a3 v10.toNat 0) (v14.snd.snd.snd.snd.fst) 0), (39, .agg [.int .i64 (v14.snd.snd.snd.snd.snd.fst), .int .i64 (v14.snd.snd.snd.snd.snd.snd.fst), .int .i64 (v14.snd.snd.snd.snd.snd.snd.snd.fst), .int .i64 (v14.snd.snd.snd.snd.snd.snd.snd.snd.fst), .int .i64 (v14.snd.snd.snd.snd.snd.snd.snd.snd.snd.fst), .int .i64 (v14.snd.snd.snd.snd.snd.snd.snd.snd.snd.snd.fst)]), (40, .ptr 2 0), (41, .int .i64 (v14.snd.snd.snd.snd.snd.snd.snd.snd.snd.snd.snd.fst)), (42, .bool (v14.snd.snd.snd.snd.snd.snd.snd.snd.snd.snd.snd.snd.fst)), (43, .bool (v14.snd.snd.snd.snd.snd.snd.snd.snd.snd.snd.snd.snd.snd.fst)), (44, .bool (v14.snd.snd.snd.snd.snd.snd.snd.snd.snd.snd.snd.snd.snd.snd.fst)), (49, .bool (v14.snd.snd.snd.snd.snd.snd.snd.snd.snd.snd.snd.snd.snd.snd.snd.fst)), (50, .int .i64 (v10)), (51, .int .i64 (IntKind.i64.wrap (v10 + 1))), (52, .int .i64 (v14.snd.snd.snd.snd.snd.snd.snd.snd.snd.snd.snd.snd.snd.snd.snd.snd.fst)), (53, .int .i64 (v14.snd.snd.snd.snd.snd.snd.snd.snd.snd.snd.snd.snd.snd.snd.snd.snd.snd.fst)), (54, .agg [.int .i64 (2), .int .i64 (IntKind.i64.wrap (v10 + 1)), .int .i64 (v14.snd.snd.snd.snd.snd.snd.snd.snd.snd.snd.snd.snd.snd.snd.snd.snd.snd.snd.fst)])], [(0, .box 25 [.sl (a0) 43 (a1), .sl (a2) 44 (a3)]), (1, .box 30 [.int .i64 (2), .int .i64 (IntKind.i64.wrap (v10 + 1)), .int .i64 (v14.snd.snd.snd.snd.snd.snd.snd.snd.snd.snd.snd.snd.snd.snd.snd.snd.snd.snd.snd.fst)]), (2, .box 46 [.int .i64 (v14.snd.snd.snd.snd.snd.snd.snd.snd.snd.snd.snd.snd.snd.snd.snd.snd.snd.snd.snd.snd.fst), .int .i64 (v14.snd.snd.snd.snd.snd.snd.snd.snd.snd.snd.snd.snd.snd.snd.snd.snd.snd.snd.snd.snd.snd.fst), .int .i64 (v14.snd.snd.snd.snd.snd.snd.snd.snd.snd.snd.snd.snd.snd.snd.snd.snd.snd.snd.snd.snd.snd.snd.fst), .int .i64 (v14.snd.snd.snd.snd.snd.snd.snd.snd.snd.snd.snd.snd.snd.snd.snd.snd.snd.snd.snd.snd.snd.snd.snd.fst), .int .i64 (v14.snd.snd.snd.snd.snd.snd.snd.snd.snd.snd.snd.snd.snd.snd.snd.snd.snd.snd.snd.snd.snd.snd.snd.snd.fst), .int .i64 (v14.snd.snd.snd.snd.snd.snd.snd.snd.snd.snd.snd.snd.snd.snd.snd.snd.snd.snd.snd.snd.snd.snd.snd.snd.snd)])], 3, [], []⟩)) (fun v15 => (.exit 2, ⟨[(1, .ptr 0 0), (2, .nils), (3, .ptr 1 0), (4, .int .i64 (v10)), (5, .sl (rn a3 v10.toNat 0) 46 (rr a3 v10.toNat 0)), (20, .sl (a2) 44 (a3)), (21, .int .i64 ((↑(List.length a3) : Int))), (22, .int .i64 (v10)), (23, .bool (decide (v10 < (↑(List.length a3) : Int)))), (24, .int .i64 (v10)), (25, .rel 44 (a3) (v10.toNat) 0), (26, .sl (rn a3 v10.toNat 0) 46 (rr a3 v10.toNat 0)), (27, .sl (rn a3 v10.toNat 0) 46 (rr a3 v10.toNat 0)), (28, .int .i64 ((↑(List.length (rr a3 v10.toNat 0)) : Int))), (29, .bool (decide (1024 < (↑(List.length (rr a3 v10.toNat 0)) : Int)))), (33, .sl (rn a3 v10.toNat 0) 46 (rr a3 v10.toNat 0)), (34, .int .i64 ((↑(List.length (rr a3 v10.toNat 0)) : Int))), (35, .int .i64 (v15.fst)), (36, .bool (v15.snd))], [(0, .box 25 [.sl (a0) 43 (a1), .sl (a2) 44 (a3)]), (1, .box 30 [.int .i64 (0), .int .i64 (0), .int .i64 (0)])], 2, [], []⟩))) (W.bindE h) (Weak.a ?_) (fun v13 I Q h => ?_) (fun v h => ?_)
          · conv => whnf
            exact ⟨rfl, rfl, rfl, rfl, rfl⟩
          · conv => whnf
            refine ASeq.go tab_ok mixed_ ?_
            conv => whnf
            refine XSplit.mk (fun e => ?_) (fun e => ?_)
            · replace h := XSplit.t h e
              conv => whnf
              refine ASeq.go tab_ok mixed_ ?_
              conv => whnf
              refine XNeed.mk (XNeed.c h) ?_; replace h := XNeed.x h
              conv => whnf
              refine ASeq.joinW tab_ok mixed_ (fun v16 => ⟨[(1, .ptr 0 0), (2, .nils), (3, .ptr 1 0), (4, .int .i64 (v10)), (5, .sl (rn a3 v10.toNat 0) 46 (rr a3 v10.toNat 0)), (6, .int .i64 (v13)), (7, .ptr 2 0), (20, .sl (a2) 44 (a3)), (21, .int .i64 ((↑(List.length a3) : Int))), (22, .int .i64 (v10)), (23, .bool (decide (v10 < (↑(List.length a3) : Int)))), (24, .int .i64 (v10)), (25, .rel 44 (a3) (v10.toNat) 0), (26, .sl (rn a3 v10.toNat 0) 46 (rr a3 v10.toNat 0)), (27, .sl (rn a3 v10.toNat 0) 46 (rr a3 v10.toNat 0)), (28, .int .i64 ((↑(List.length (rr a3 v10.toNat 0)) : Int))), (29, .bool (decide (1024 < (↑(List.length (rr a3 v10.toNat 0)) : Int)))), (33, .sl (rn a3 v10.toNat 0) 46 (rr a3 v10.toNat 0)), (34, .int .i64 ((↑(List.length (rr a3 v10.toNat 0)) : Int))), (35, .int .i64 (v13)), (36, .bool (decide (v13 < (↑(List.length (rr a3 v10.toNat 0)) : Int)))), (37, .int .i64 (v13)), (38, .rel 46 (rr a3 v10.toNat 0) (v13.toNat) 0), (39, .agg [.int .i64 (ri (rr a3 v10.toNat 0) v13.toNat 0), .int .i64 (ri (rr a3 v10.toNat 0) v13.toNat 1), .int .i64 (ri (rr a3 v10.toNat 0) v13.toNat 2), .int .i64 (ri (rr a3 v10.toNat 0) v13.toNat 3), .int .i64 (ri (rr a3 v10.toNat 0) v13.toNat 4), .int .i64 (ri (rr a3 v10.toNat 0) v13.toNat 5)]), (40, .ptr 2 0), (41, .int .i64 (ri (rr a3 v10.toNat 0) v13.toNat 0)), (42, .bool (v16.fst)), (43, .bool (v16.snd.fst)), (44, .bool (v16.snd.snd.fst)), (49, .bool (v16.snd.snd.snd))], [(0, .box 25 [.sl (a0) 43 (a1), .sl (a2) 44 (a3)]), (1, .box 30 [.int .i64 (0), .int .i64 (0), .int .i64 (0)]), (2, .box 46 [.int .i64 (ri (rr a3 v10.toNat 0) v13.toNat 0), .int .i64 (ri (rr a3 v10.toNat 0) v13.toNat 1), .int .i64 (ri (rr a3 v10.toNat 0) v13.toNat 2), .int .i64 (ri (rr a3 v10.toNat 0) v13.toNat 3), .int .i64 (ri (rr a3 v10.toNat 0) v13.toNat 4), .int .i64 (ri (rr a3 v10.toNat 0) v13.toNat 5)])], 3, [], []⟩) h (fun Q h => ?_) (fun v16 h => ?_)
              · conv => whnf
                refine ACalls.inn (c_ref16_whole (W.bindE h) (fun v17 h => ?_)) ⟨rfl, rfl⟩
                conv => whnf
                refine XSplit.mk (fun e => ?_) (fun e => ?_)
                · replace h := XSplit.t h e
                  conv => whnf
                  refine ⟨_, Weak.a ?_, h⟩; (conv => whnf); exact ⟨rfl, rfl, rfl, rfl, rfl⟩
                · replace h := XSplit.f h e
                  conv => whnf
                  refine ACalls.inn (c_ref16_whole (W.bindE h) (fun v18 h => ?_)) ⟨rfl, rfl⟩
                  conv => whnf
                  refine ⟨_, Weak.a ?_, h⟩; (conv => whnf); exact ⟨rfl, rfl, rfl, rfl, rfl⟩
              · conv => whnf
                refine XSplit.mk (fun e => ?_) (fun e => ?_)
                · replace h := XSplit.t h e
                  conv => whnf
                  refine ⟨_, ?_, Weak.a ?_, h⟩; exact rfl; (conv => whnf); exact ⟨rfl, rfl, rfl, rfl, rfl⟩
                · replace h := XSplit.f h e
                  conv => whnf
                  refine ⟨_, Weak.a ?_, h⟩; (conv => whnf); exact ⟨rfl, rfl, rfl, rfl, rfl⟩
            · replace h := XSplit.f h e
              conv => whnf
              refine ⟨_, ?_, Weak.a ?_, h⟩; exact rfl; (conv => whnf); exact ⟨rfl, rfl, rfl, rfl, rfl⟩
          · rcases v with v14 | v15
            · conv => whnf
              refine ⟨_, ?_, Weak.a ?_, h⟩; exact rfl; (conv => whnf); exact ⟨rfl, rfl, rfl, rfl, rfl⟩
            · conv => whnf
              refine ⟨_, Weak.a ?_, h⟩; (conv => whnf); exact ⟨rfl, rfl, rfl, rfl, rfl⟩
      · replace h := XSplit.f h e
        conv => whnf
        refine ⟨_, ?_, Weak.a ?_, h⟩; exact rfl; (conv => whnf); exact ⟨rfl, rfl, rfl, rfl, rfl⟩
    · rcases v with v11 | v12
      · conv => whnf
        refine ⟨_, Weak.a ?_, ?_, h⟩; (conv => whnf); exact ⟨rfl, rfl, rfl, rfl, rfl⟩; exact rfl
      · conv => whnf
        refine ACalls.inn (c_ref16_Bytes (W.bindE h) (fun v19 h => ?_)) ⟨rfl, rfl⟩
        conv => whnf
        refine ⟨_, Weak.a ?_, ?_, h⟩; (conv => whnf); exact ⟨rfl, rfl, rfl, rfl, rfl⟩; exact rfl

theorem c___seal_decoder__giveUp_p {a0 : Int} {a1 : Int} {a2 : Int} {a3 : Int} {Q : Int × Int × Int × Int → Prop} {R : AV → List AB → Prop} (h : (g___seal_decoder__giveUp_p a0 a1 a2 a3).run Q) (k : ∀ r, Q r → R (.iface 54 (.agg [.int .i64 (r.fst), .int .i64 (r.snd.fst), .int .i64 (r.snd.snd.fst)])) ([.box 59 [.nilp, .int .i64 (r.snd.snd.snd), .int .i64 (a2), .int .i64 (a3)]])) : ACalls Try.prog tab 23 [.ptr 0 0, .int .i64 (a0)] [.box 59 [.nilp, .int .i64 (a1), .int .i64 (a2), .int .i64 (a3)]] R := by
  refine ACalls.out (fun r => .iface 54 (.agg [.int .i64 (r.fst), .int .i64 (r.snd.fst), .int .i64 (r.snd.snd.fst)])) (fun r => [.box 59 [.nilp, .int .i64 (r.snd.snd.snd), .int .i64 (a2), .int .i64 (a3)]]) (Q := Q) (ACalls.introX (mv := mv) tab_ok mixed_ (fn := Try.f23) (by kernel_rfl) rfl (by kernel_rfl) (by kernel_rfl) (Nat.le_of_ble_eq_true rfl) ?_) (fun v => by first | exact ⟨rfl, Nat.le_of_ble_eq_true rfl⟩ | (cases v <;> exact ⟨rfl, Nat.le_of_ble_eq_true rfl⟩)) k
  conv => whnf
  refine ⟨_, Weak.a ?_, ?_, h⟩; (conv => whnf); exact ⟨rfl, rfl, rfl, rfl, rfl⟩; exact rfl

theorem c_slices_Clone___byte_byte_ {a0 : Bool} {a1 : Rws} {Q : Bool × Rws → Prop} {R : AV → List AB → Prop} (h : (g_slices_Clone___byte_byte_ a0 a1).run Q) (k : ∀ r, Q r → R (.own 0) ([.arr true 5 (r.fst) (r.snd)])) : ACalls Try.prog tab 42 [.sl (a0) 5 (a1)] [] R := by
  refine ACalls.out (fun r => .own 0) (fun r => [.arr true 5 (r.fst) (r.snd)]) (Q := Q) (ACalls.introX (mv := mv) tab_ok mixed_ (fn := Try.f42) (by kernel_rfl) rfl (by kernel_rfl) (by kernel_rfl) (Nat.le_of_ble_eq_true rfl) ?_) (fun v => by first | exact ⟨rfl, Nat.le_of_ble_eq_true rfl⟩ | (cases v <;> exact ⟨rfl, Nat.le_of_ble_eq_true rfl⟩)) k
  conv => whnf
  refine ASeq.go tab_ok mixed_ ?_
  conv => whnf
  refine XSplit.mk (fun e => ?_) (fun e => ?_)
  · replace h := XSplit.t h e
    conv => whnf
    refine ⟨_, Weak.a ?_, ?_, h⟩; (conv => whnf); exact ⟨rfl, rfl, rfl, rfl, rfl⟩; exact rfl
  · replace h := XSplit.f h e
    conv => whnf
    refine XNeed.mk (XNeed.c h) ?_; replace h := XNeed.x h
    conv => whnf
    refine ⟨_, Weak.a ?_, ?_, h⟩; (conv => whnf); exact ⟨rfl, rfl, rfl, rfl, rfl⟩; exact rfl

theorem c_wire_New {a0 : Bool} {a1 : Rws} {Q : Int × Int × Bool × Rws → Prop} {R : AV → List AB → Prop} (h : (g_wire_New a0 a1).run Q) (k : ∀ r, Q r → R (.ptr 0 0) ([.box 87 [.ptr 1 0, .int .i64 (r.fst)], .box 85 [.own 2, .int .i64 (r.snd.fst)], .arr true 5 (r.snd.snd.fst) (r.snd.snd.snd)])) : ACalls Try.prog tab 24 [.sl (a0) 5 (a1)] [] R := by
  refine ACalls.out (fun r => .ptr 0 0) (fun r => [.box 87 [.ptr 1 0, .int .i64 (r.fst)], .box 85 [.own 2, .int .i64 (r.snd.fst)], .arr true 5 (r.snd.snd.fst) (r.snd.snd.snd)]) (Q := Q) (ACalls.introX (mv := mv) tab_ok mixed_ (fn := Try.f24) (by kernel_rfl) rfl (by kernel_rfl) (by kernel_rfl) (Nat.le_of_ble_eq_true rfl) ?_) (fun v => by first | exact ⟨rfl, Nat.le_of_ble_eq_true rfl⟩ | (cases v <;> exact ⟨rfl, Nat.le_of_ble_eq_true rfl⟩)) k
  conv => whnf
  refine ACalls.inn (c_slices_Clone___byte_byte_ (W.bindE h) (fun v1 h => ?_)) ⟨rfl, rfl⟩
  conv => whnf
  refine ⟨_, Weak.a ?_, ?_, h⟩; (conv => whnf); exact ⟨rfl, rfl, rfl, rfl, rfl⟩; exact rfl

theorem c_math_bits_RotateLeft64 {a0 : Int} {a1 : Int} {Q : Int → Prop} {R : AV → List AB → Prop} (h : (g_math_bits_RotateLeft64 a0 a1).run Q) (k : ∀ r, Q r → R (.int .u64 (r)) ([])) : ACalls Try.prog tab 65 [.int .u64 (a0), .int .i64 (a1)] [] R := by
  refine ACalls.out (fun r => .int .u64 (r)) (fun r => []) (Q := Q) (ACalls.introX (mv := mv) tab_ok mixed_ (fn := Try.f65) (by kernel_rfl) rfl (by kernel_rfl) (by kernel_rfl) (Nat.le_of_ble_eq_true rfl) ?_) (fun v => by first | exact ⟨rfl, Nat.le_of_ble_eq_true rfl⟩ | (cases v <;> exact ⟨rfl, Nat.le_of_ble_eq_true rfl⟩)) k
  conv => whnf
  refine XNeed.mk (XNeed.c h) ?_; replace h := XNeed.x h
  conv => whnf
  refine XNeed.mk (XNeed.c h) ?_; replace h := XNeed.x h
  conv => whnf
  refine ⟨_, Weak.a ?_, ?_, h⟩; (conv => whnf); exact ⟨rfl, rfl, rfl, rfl, rfl⟩; exact rfl

theorem c___wire_cursor__peek_p {a0 : Bool} {a1 : Rws} {a2 : Int} {Q : Int × Int × Int → Prop} {R : AV → List AB → Prop} (h : (g___wire_cursor__peek_p a0 a1 a2).run Q) (k : ∀ r, Q r → R (.tup [.int .u64 (r.fst), .int .i64 (r.snd.fst), .int .i64 (r.snd.snd)]) ([.box 85 [.sl (a0) 5 (a1), .int .i64 (a2)]])) : ACalls Try.prog tab 64 [.ptr 0 0] [.box 85 [.sl (a0) 5 (a1), .int .i64 (a2)]] R := by
  refine ACalls.out (fun r => .tup [.int .u64 (r.fst), .int .i64 (r.snd.fst), .int .i64 (r.snd.snd)]) (fun r => [.box 85 [.sl (a0) 5 (a1), .int .i64 (a2)]]) (Q := Q) (ACalls.introX (mv := mv) tab_ok mixed_ (fn := Try.f64) (by kernel_rfl) rfl (by kernel_rfl) (by kernel_rfl) (Nat.le_of_ble_eq_true rfl) ?_) (fun v => by first | exact ⟨rfl, Nat.le_of_ble_eq_true rfl⟩ | (cases v <;> exact ⟨rfl, Nat.le_of_ble_eq_true rfl⟩)) k
  conv => whnf
  refine ASeq.go tab_ok mixed_ ?_
  conv => whnf
  refine XDraw.q [0, 1, 2, 3, 4, 5, 6, 7, 8, 9, 10] (by decide +kernel) ?_
  conv => whnf
  refine XNeed.mk (XNeed.c h) ?_; replace h := XNeed.x h
  conv => whnf
  refine ALoop.ofW tab_ok mixed_ (fun v4 => ⟨[(2, .int .u64 (0)), (3, .int .i64 (0)), (4, .int .i64 (0)), (5, .int .u64 (v4.fst)), (16, .sl (a0) 5 (List.take ((↑(List.length a1) : Int) - a2).toNat (List.drop a2.toNat a1))), (17, .int .i64 ((↑(List.take ((↑(List.length a1) : Int) - a2).toNat (List.drop a2.toNat a1)).length : Int))), (18, .int .i64 (v4.snd))], [(0, .box 85 [.sl (a0) 5 (a1), .int .i64 (a2)])], 1, [], []⟩) (sx (fun v5 => (.ret, ⟨[(2, .int .u64 (v5.fst)), (3, .int .i64 (v5.snd.fst)), (4, .int .i64 (v5.snd.snd))], [(0, .box 85 [.sl (a0) 5 (a1), .int .i64 (a2)])], 1, [], []⟩)) (fun v6 => (.exit 0, ⟨[(2, .int .u64 (0)), (3, .int .i64 (0)), (4, .int .i64 (0))], [(0, .box 85 [.sl (a0) 5 (a1), .int .i64 (a2)])], 1, [], []⟩))) (W.bindE h) (Weak.a ?_) (fun v4 I Q h => ?_) (fun v h => ?_)
  · conv => whnf
    exact ⟨rfl, rfl, rfl, rfl, rfl⟩
  · conv => whnf
    refine ASeq.go tab_ok mixed_ ?_
    conv => whnf
    refine XSplit.mk (fun e => ?_) (fun e => ?_)
    · replace h := XSplit.t h e
      conv => whnf
      refine ASeq.go tab_ok mixed_ ?_
      conv => whnf
      refine XNeed.mk (XNeed.c h) ?_; replace h := XNeed.x h
      conv => whnf
      refine ASeq.go tab_ok mixed_ ?_
      conv => whnf
      refine XSplit.mk (fun e => ?_) (fun e => ?_)
      · replace h := XSplit.t h e
        conv => whnf
        refine ⟨_, ?_, Weak.a ?_, h⟩; exact rfl; (conv => whnf); exact ⟨rfl, rfl, rfl, rfl, rfl⟩
      · replace h := XSplit.f h e
        conv => whnf
        refine ACalls.inn (c_math_bits_RotateLeft64 (W.bindE h) (fun v7 h => ?_)) ⟨rfl, rfl⟩
        conv => whnf
        refine XSplit.mk (fun e => ?_) (fun e => ?_)
        · replace h := XSplit.t h e
          conv => whnf
          refine ASeq.go tab_ok mixed_ ?_
          conv => whnf
          refine XSplit.mk (fun e => ?_) (fun e => ?_)
          · replace h := XSplit.t h e
            conv => whnf
            refine ⟨_, ?_, Weak.a ?_, h⟩; exact rfl; (conv => whnf); exact ⟨rfl, rfl, rfl, rfl, rfl⟩
          · replace h := XSplit.f h e
            conv => whnf
            refine ⟨_, ?_, Weak.a ?_, h⟩; exact rfl; (conv => whnf); exact ⟨rfl, rfl, rfl, rfl, rfl⟩
        · replace h := XSplit.f h e
          conv => whnf
          refine ⟨_, Weak.a ?_, h⟩; (conv => whnf); exact ⟨rfl, rfl, rfl, rfl, rfl⟩
    · replace h := XSplit.f h e
      conv => whnf
      refine ⟨_, ?_, Weak.a ?_, h⟩; exact rfl; (conv => whnf); exact ⟨rfl, rfl, rfl, rfl, rfl⟩
  · rcases v with v5 | v6
    · conv => whnf
      refine ⟨_, Weak.a ?_, ?_, h⟩; (conv => whnf); exact ⟨rfl, rfl, rfl, rfl, rfl⟩; exact rfl
    · conv => whnf
      refine ⟨_, Weak.a ?_, ?_, h⟩; (conv => whnf); exact ⟨rfl, rfl, rfl, rfl, rfl⟩; exact rfl
end Go.Proofs.Ytfekobhcekcniaa.V16

set_option linter.unusedVariables false
set_option maxRecDepth 100000
set_option maxHeartbeats 0
namespace Go.Proofs.Ytfekobhcekcniaa.V16
open Go.Proofs Go.Proofs.Ytfekobhcekcniaa.VX
theorem c___wire_Reader__take_p {a0 : Int} {a1 : Int} {a2 : Bool} {a3 : Rws} {a4 : Int} {Q : Int × Int × Int → Prop} {R : AV → List AB → Prop} (h : (g___wire_Reader__take_p a0 a1 a2 a3 a4).run Q) (k : ∀ r, Q r → R (.int .u64 (r.fst)) ([.box 87 [.ptr 1 0, .int .i64 (r.snd.fst)], .box 85 [.sl (a2) 5 (a3), .int .i64 (r.snd.snd)]])) : ACalls Try.prog tab 55 [.ptr 0 0, .int .u64 (a0)] [.box 87 [.ptr 1 0, .int .i64 (a1)], .box 85 [.sl (a2) 5 (a3), .int .i64 (a4)]] R := by
  refine ACalls.out (fun r => .int .u64 (r.fst)) (fun r => [.box 87 [.ptr 1 0, .int .i64 (r.snd.fst)], .box 85 [.sl (a2) 5 (a3), .int .i64 (r.snd.snd)]]) (Q := Q) (ACalls.introX (mv := mv) tab_ok mixed_ (fn := Try.f55) (by kernel_rfl) rfl (by kernel_rfl) (by kernel_rfl) (Nat.le_of_ble_eq_true rfl) ?_) (fun v => by first | exact ⟨rfl, Nat.le_of_ble_eq_true rfl⟩ | (cases v <;> exact ⟨rfl, Nat.le_of_ble_eq_true rfl⟩)) k
  conv => whnf
  refine ASeq.go tab_ok mixed_ ?_
  conv => whnf
  refine XSplit.mk (fun e => ?_) (fun e => ?_)
  · replace h := XSplit.t h e
    conv => whnf
    refine ⟨_, Weak.a ?_, ?_, h⟩; (conv => whnf); exact ⟨rfl, rfl, rfl, rfl, rfl⟩; exact rfl
  · replace h := XSplit.f h e
    conv => whnf
    refine ACalls.inn (c___wire_cursor__peek_p (W.bindE h) (fun v2 h => ?_)) ⟨rfl, rfl⟩
    conv => whnf
    refine ASeq.joinW tab_ok mixed_ (fun v3 => ⟨[(0, .ptr 0 0), (4, .int .u64 (0)), (5, .int .u64 (v2.fst)), (6, .int .i64 (v2.snd.fst)), (7, .int .i64 (v3))], [(0, .box 87 [.ptr 1 0, .int .i64 (a1)]), (1, .box 85 [.sl (a2) 5 (a3), .int .i64 (a4)])], 2, [], []⟩) h (fun Q h => ?_) (fun v3 h => ?_)
    · conv => whnf
      refine XSplit.mk (fun e => ?_) (fun e => ?_)
      · replace h := XSplit.t h e
        conv => whnf
        refine ⟨_, Weak.a ?_, h⟩; (conv => whnf); exact ⟨rfl, rfl, rfl, rfl, rfl⟩
      · replace h := XSplit.f h e
        conv => whnf
        refine ⟨_, Weak.a ?_, h⟩; (conv => whnf); exact ⟨rfl, rfl, rfl, rfl, rfl⟩
    · conv => whnf
      refine ASeq.go tab_ok mixed_ ?_
      conv => whnf
      refine XSplit.mk (fun e => ?_) (fun e => ?_)
      · replace h := XSplit.t h e
        conv => whnf
        refine ⟨_, Weak.a ?_, ?_, h⟩; (conv => whnf); exact ⟨rfl, rfl, rfl, rfl, rfl⟩; exact rfl
      · replace h := XSplit.f h e
        conv => whnf
        refine ⟨_, Weak.a ?_, ?_, h⟩; (conv => whnf); exact ⟨rfl, rfl, rfl, rfl, rfl⟩; exact rfl

theorem c___wire_Reader__N_p {a0 : Int} {a1 : Int} {a2 : Bool} {a3 : Rws} {a4 : Int} {Q : Int × Int × Int → Prop} {R : AV → List AB → Prop} (h : (g___wire_Reader__N_p a0 a1 a2 a3 a4).run Q) (k : ∀ r, Q r → R (.int .i64 (r.fst)) ([.box 87 [.ptr 1 0, .int .i64 (r.snd.fst)], .box 85 [.sl (a2) 5 (a3), .int .i64 (r.snd.snd)]])) : ACalls Try.prog tab 43 [.ptr 0 0, .int .i64 (a0)] [.box 87 [.ptr 1 0, .int .i64 (a1)], .box 85 [.sl (a2) 5 (a3), .int .i64 (a4)]] R := by
  refine ACalls.out (fun r => .int .i64 (r.fst)) (fun r => [.box 87 [.ptr 1 0, .int .i64 (r.snd.fst)], .box 85 [.sl (a2) 5 (a3), .int .i64 (r.snd.snd)]]) (Q := Q) (ACalls.introX (mv := mv) tab_ok mixed_ (fn := Try.f43) (by kernel_rfl) rfl (by kernel_rfl) (by kernel_rfl) (Nat.le_of_ble_eq_true rfl) ?_) (fun v => by first | exact ⟨rfl, Nat.le_of_ble_eq_true rfl⟩ | (cases v <;> exact ⟨rfl, Nat.le_of_ble_eq_true rfl⟩)) k
  conv => whnf
  refine ASeq.go tab_ok mixed_ ?_
  conv => whnf
  refine XSplit.mk (fun e => ?_) (fun e => ?_)
  · replace h := XSplit.t h e
    conv => whnf
    refine ACalls.inn (c___wire_Reader__take_p (W.bindE h) (fun v3 h => ?_)) ⟨rfl, rfl⟩
    conv => whnf
    refine ⟨_, Weak.a ?_, ?_, h⟩; (conv => whnf); exact ⟨rfl, rfl, rfl, rfl, rfl⟩; exact rfl
  · replace h := XSplit.f h e
    conv => whnf
    refine ASeq.joinW tab_ok mixed_ (fun v4 => ⟨[(4, .int .i64 (0))], [(0, .box 87 [.ptr 1 0, .int .i64 (v4.fst)]), (1, .box 85 [.sl (a2) 5 (a3), .int .i64 (v4.snd)])], 2, [], []⟩) h (fun Q h => ?_) (fun v4 h => ?_)
    · conv => whnf
      refine ACalls.inn (c___wire_Reader__take_p (W.bindE h) (fun v5 h => ?_)) ⟨rfl, rfl⟩
      conv => whnf
      refine XSplit.mk (fun e => ?_) (fun e => ?_)
      · replace h := XSplit.t h e
        conv => whnf
        refine ⟨_, Weak.a ?_, h⟩; (conv => whnf); exact ⟨rfl, rfl, rfl, rfl, rfl⟩
      · replace h := XSplit.f h e
        conv => whnf
        refine ⟨_, Weak.a ?_, h⟩; (conv => whnf); exact ⟨rfl, rfl, rfl, rfl, rfl⟩
    · conv => whnf
      refine ⟨_, Weak.a ?_, ?_, h⟩; (conv => whnf); exact ⟨rfl, rfl, rfl, rfl, rfl⟩; exact rfl

theorem c___wire_Reader__Err_p {a0 : Int} {a1 : Bool} {a2 : Rws} {a3 : Int} {Q : Int → Prop} {R : AV → List AB → Prop} (h : (g___wire_Reader__Err_p a0 a1 a2 a3).run Q) (k : ∀ r, Q r → R (.int .i64 (r)) ([.box 87 [.ptr 1 0, .int .i64 (a0)], .box 85 [.sl (a1) 5 (a2), .int .i64 (a3)]])) : ACalls Try.prog tab 47 [.ptr 0 0] [.box 87 [.ptr 1 0, .int .i64 (a0)], .box 85 [.sl (a1) 5 (a2), .int .i64 (a3)]] R := by
  refine ACalls.out (fun r => .int .i64 (r)) (fun r => [.box 87 [.ptr 1 0, .int .i64 (a0)], .box 85 [.sl (a1) 5 (a2), .int .i64 (a3)]]) (Q := Q) (ACalls.introX (mv := mv) tab_ok mixed_ (fn := Try.f47) (by kernel_rfl) rfl (by kernel_rfl) (by kernel_rfl) (Nat.le_of_ble_eq_true rfl) ?_) (fun v => by first | exact ⟨rfl, Nat.le_of_ble_eq_true rfl⟩ | (cases v <;> exact ⟨rfl, Nat.le_of_ble_eq_true rfl⟩)) k
  conv => whnf
  refine ASeq.go tab_ok mixed_ ?_
  conv => whnf
  refine XSplit.ff rfl ?_
  conv => whnf
  refine ⟨_, Weak.a ?_, ?_, h⟩; (conv => whnf); exact ⟨rfl, rfl, rfl, rfl, rfl⟩; exact rfl

theorem c___seal_decoder__giveUp_p_2 {a0 : Int} {a1 : Int} {a2 : Int} {a3 : Int} {a4 : Int} {a5 : Bool} {a6 : Rws} {a7 : Int} {Q : Int × Int × Int × Int → Prop} {R : AV → List AB → Prop} (h : (g___seal_decoder__giveUp_p_2 a0 a1 a2 a3 a4 a5 a6 a7).run Q) (k : ∀ r, Q r → R (.iface 54 (.agg [.int .i64 (r.fst), .int .i64 (r.snd.fst), .int .i64 (r.snd.snd.fst)])) ([.box 59 [.ptr 1 0, .int .i64 (r.snd.snd.snd), .int .i64 (a2), .int .i64 (a3)], .box 87 [.ptr 2 0, .int .i64 (a4)], .box 85 [.sl (a5) 5 (a6), .int .i64 (a7)]])) : ACalls Try.prog tab 23 [.ptr 0 0, .int .i64 (a0)] [.box 59 [.ptr 1 0, .int .i64 (a1), .int .i64 (a2), .int .i64 (a3)], .box 87 [.ptr 2 0, .int .i64 (a4)], .box 85 [.sl (a5) 5 (a6), .int .i64 (a7)]] R := by
  refine ACalls.out (fun r => .iface 54 (.agg [.int .i64 (r.fst), .int .i64 (r.snd.fst), .int .i64 (r.snd.snd.fst)])) (fun r => [.box 59 [.ptr 1 0, .int .i64 (r.snd.snd.snd), .int .i64 (a2), .int .i64 (a3)], .box 87 [.ptr 2 0, .int .i64 (a4)], .box 85 [.sl (a5) 5 (a6), .int .i64 (a7)]]) (Q := Q) (ACalls.introX (mv := mv) tab_ok mixed_ (fn := Try.f23) (by kernel_rfl) rfl (by kernel_rfl) (by kernel_rfl) (Nat.le_of_ble_eq_true rfl) ?_) (fun v => by first | exact ⟨rfl, Nat.le_of_ble_eq_true rfl⟩ | (cases v <;> exact ⟨rfl, Nat.le_of_ble_eq_true rfl⟩)) k
  conv => whnf
  refine ⟨_, Weak.a ?_, ?_, h⟩; (conv => whnf); exact ⟨rfl, rfl, rfl, rfl, rfl⟩; exact rfl

theorem c___seal_decoder__sure_p {a0 : Int} {a1 : Int} {a2 : Int} {a3 : Int} {a4 : Bool} {a5 : Rws} {a6 : Int} {Q : (Unit) ⊕ (Int × Int × Int × Int) → Prop} {R : AV → List AB → Prop} (h : (g___seal_decoder__sure_p a0 a1 a2 a3 a4 a5 a6).run Q) (k : ∀ r, Q r → R (sx (fun r => .tup []) (fun r => .iface 54 (.agg [.int .i64 (r.fst), .int .i64 (r.snd.fst), .int .i64 (r.snd.snd.fst)])) r) (sx (fun r => [.box 59 [.ptr 1 0, .int .i64 (a0), .int .i64 (a1), .int .i64 (a2)], .box 87 [.ptr 2 0, .int .i64 (a3)], .box 85 [.sl (a4) 5 (a5), .int .i64 (a6)]]) (fun r => [.box 59 [.ptr 1 0, .int .i64 (r.snd.snd.snd), .int .i64 (a1), .int .i64 (a2)], .box 87 [.ptr 2 0, .int .i64 (a3)], .box 85 [.sl (a4) 5 (a5), .int .i64 (a6)]]) r)) : ACalls Try.prog tab 44 [.ptr 0 0] [.box 59 [.ptr 1 0, .int .i64 (a0), .int .i64 (a1), .int .i64 (a2)], .box 87 [.ptr 2 0, .int .i64 (a3)], .box 85 [.sl (a4) 5 (a5), .int .i64 (a6)]] R := by
  refine ACalls.out (fun r => sx (fun r => .tup []) (fun r => .iface 54 (.agg [.int .i64 (r.fst), .int .i64 (r.snd.fst), .int .i64 (r.snd.snd.fst)])) r) (fun r => sx (fun r => [.box 59 [.ptr 1 0, .int .i64 (a0), .int .i64 (a1), .int .i64 (a2)], .box 87 [.ptr 2 0, .int .i64 (a3)], .box 85 [.sl (a4) 5 (a5), .int .i64 (a6)]]) (fun r => [.box 59 [.ptr 1 0, .int .i64 (r.snd.snd.snd), .int .i64 (a1), .int .i64 (a2)], .box 87 [.ptr 2 0, .int .i64 (a3)], .box 85 [.sl (a4) 5 (a5), .int .i64 (a6)]]) r) (Q := Q) (ACalls.introX (mv := mv) tab_ok mixed_ (fn := Try.f44) (by kernel_rfl) rfl (by kernel_rfl) (by kernel_rfl) (Nat.le_of_ble_eq_true rfl) ?_) (fun v => by first | exact ⟨rfl, Nat.le_of_ble_eq_true rfl⟩ | (cases v <;> exact ⟨rfl, Nat.le_of_ble_eq_true rfl⟩)) k
  conv => whnf
  refine ACalls.inn (c___wire_Reader__Err_p (W.bindE h) (fun v2 h => ?_)) ⟨rfl, rfl⟩
  conv => whnf
  refine XSplit.mk (fun e => ?_) (fun e => ?_)
  · replace h := XSplit.t h e
    conv => whnf
    refine ACalls.inn (c___seal_decoder__giveUp_p_2 (W.bindE h) (fun v3 h => ?_)) ⟨rfl, rfl⟩
    conv => whnf
    refine ⟨_, Weak.a ?_, ?_, h⟩; (conv => whnf); exact ⟨rfl, rfl, rfl, rfl, rfl⟩; exact rfl
  · replace h := XSplit.f h e
    conv => whnf
    refine ⟨_, Weak.a ?_, ?_, h⟩; (conv => whnf); exact ⟨rfl, rfl, rfl, rfl, rfl⟩; exact rfl

theorem c___seal_decoder__count_p {a0 : Int} {a1 : Int} {a2 : Int} {a3 : Int} {a4 : Int} {a5 : Bool} {a6 : Rws} {a7 : Int} {Q : (Int × Int × Int) ⊕ (Int × Int × Int × Int × Int × Int) → Prop} {R : AV → List AB → Prop} (h : (g___seal_decoder__count_p a0 a1 a2 a3 a4 a5 a6 a7).run Q) (k : ∀ r, Q r → R (sx (fun r => .int .i64 (r.fst)) (fun r => .iface 54 (.agg [.int .i64 (r.fst), .int .i64 (r.snd.fst), .int .i64 (r.snd.snd.fst)])) r) (sx (fun r => [.box 59 [.ptr 1 0, .int .i64 (a1), .int .i64 (a2), .int .i64 (a3)], .box 87 [.ptr 2 0, .int .i64 (r.snd.fst)], .box 85 [.sl (a5) 5 (a6), .int .i64 (r.snd.snd)]]) (fun r => [.box 59 [.ptr 1 0, .int .i64 (r.snd.snd.snd.fst), .int .i64 (a2), .int .i64 (a3)], .box 87 [.ptr 2 0, .int .i64 (r.snd.snd.snd.snd.fst)], .box 85 [.sl (a5) 5 (a6), .int .i64 (r.snd.snd.snd.snd.snd)]]) r)) : ACalls Try.prog tab 25 [.ptr 0 0, .int .i64 (a0)] [.box 59 [.ptr 1 0, .int .i64 (a1), .int .i64 (a2), .int .i64 (a3)], .box 87 [.ptr 2 0, .int .i64 (a4)], .box 85 [.sl (a5) 5 (a6), .int .i64 (a7)]] R := by
  refine ACalls.out (fun r => sx (fun r => .int .i64 (r.fst)) (fun r => .iface 54 (.agg [.int .i64 (r.fst), .int .i64 (r.snd.fst), .int .i64 (r.snd.snd.fst)])) r) (fun r => sx (fun r => [.box 59 [.ptr 1 0, .int .i64 (a1), .int .i64 (a2), .int .i64 (a3)], .box 87 [.ptr 2 0, .int .i64 (r.snd.fst)], .box 85 [.sl (a5) 5 (a6), .int .i64 (r.snd.snd)]]) (fun r => [.box 59 [.ptr 1 0, .int .i64 (r.snd.snd.snd.fst), .int .i64 (a2), .int .i64 (a3)], .box 87 [.ptr 2 0, .int .i64 (r.snd.snd.snd.snd.fst)], .box 85 [.sl (a5) 5 (a6), .int .i64 (r.snd.snd.snd.snd.snd)]]) r) (Q := Q) (ACalls.introX (mv := mv) tab_ok mixed_ (fn := Try.f25) (by kernel_rfl) rfl (by kernel_rfl) (by kernel_rfl) (Nat.le_of_ble_eq_true rfl) ?_) (fun v => by first | exact ⟨rfl, Nat.le_of_ble_eq_true rfl⟩ | (cases v <;> exact ⟨rfl, Nat.le_of_ble_eq_true rfl⟩)) k
  conv => whnf
  refine ACalls.inn (c___wire_Reader__N_p (W.bindE h) (fun v3 h => ?_)) ⟨rfl, rfl⟩
  conv => whnf
  refine ACalls.inn (c___seal_decoder__sure_p (W.bindE h) (fun v h => ?_)) ⟨rfl, rfl⟩
  rcases v with v4 | v5
  · conv => whnf
    refine ⟨_, Weak.a ?_, ?_, h⟩; (conv => whnf); exact ⟨rfl, rfl, rfl, rfl, rfl⟩; exact rfl
  · conv => whnf
    refine ⟨_, Weak.a ?_, ?_, h⟩; (conv => whnf); exact ⟨rfl, rfl, rfl, rfl, rfl⟩; exact rfl

theorem c___wire_Reader__S_p {a0 : Int} {a1 : Bool} {a2 : Rws} {a3 : Int} {Q : Int × Int × Int → Prop} {R : AV → List AB → Prop} (h : (g___wire_Reader__S_p a0 a1 a2 a3).run Q) (k : ∀ r, Q r → R (.int .i64 (r.fst)) ([.box 87 [.ptr 1 0, .int .i64 (r.snd.fst)], .box 85 [.sl (a1) 5 (a2), .int .i64 (r.snd.snd)]])) : ACalls Try.prog tab 56 [.ptr 0 0] [.box 87 [.ptr 1 0, .int .i64 (a0)], .box 85 [.sl (a1) 5 (a2), .int .i64 (a3)]] R := by
  refine ACalls.out (fun r => .int .i64 (r.fst)) (fun r => [.box 87 [.ptr 1 0, .int .i64 (r.snd.fst)], .box 85 [.sl (a1) 5 (a2), .int .i64 (r.snd.snd)]]) (Q := Q) (ACalls.introX (mv := mv) tab_ok mixed_ (fn := Try.f56) (by kernel_rfl) rfl (by kernel_rfl) (by kernel_rfl) (Nat.le_of_ble_eq_true rfl) ?_) (fun v => by first | exact ⟨rfl, Nat.le_of_ble_eq_true rfl⟩ | (cases v <;> exact ⟨rfl, Nat.le_of_ble_eq_true rfl⟩)) k
  conv => whnf
  refine ACalls.inn (c___wire_Reader__take_p (W.bindE h) (fun v1 h => ?_)) ⟨rfl, rfl⟩
  conv => whnf
  refine XNeed.mk (of_decide_eq_true rfl) ?_
  conv => whnf
  refine ⟨_, Weak.a ?_, ?_, h⟩; (conv => whnf); exact ⟨rfl, rfl, rfl, rfl, rfl⟩; exact rfl

theorem c___seal_decoder__s_p {a0 : Int} {a1 : Int} {a2 : Int} {a3 : Int} {a4 : Bool} {a5 : Rws} {a6 : Int} {Q : (Int × Int × Int) ⊕ (Int × Int × Int × Int × Int × Int) → Prop} {R : AV → List AB → Prop} (h : (g___seal_decoder__s_p a0 a1 a2 a3 a4 a5 a6).run Q) (k : ∀ r, Q r → R (sx (fun r => .int .i64 (r.fst)) (fun r => .iface 54 (.agg [.int .i64 (r.fst), .int .i64 (r.snd.fst), .int .i64 (r.snd.snd.fst)])) r) (sx (fun r => [.box 59 [.ptr 1 0, .int .i64 (a0), .int .i64 (a1), .int .i64 (a2)], .box 87 [.ptr 2 0, .int .i64 (r.snd.fst)], .box 85 [.sl (a4) 5 (a5), .int .i64 (r.snd.snd)]]) (fun r => [.box 59 [.ptr 1 0, .int .i64 (r.snd.snd.snd.fst), .int .i64 (a1), .int .i64 (a2)], .box 87 [.ptr 2 0, .int .i64 (r.snd.snd.snd.snd.fst)], .box 85 [.sl (a4) 5 (a5), .int .i64 (r.snd.snd.snd.snd.snd)]]) r)) : ACalls Try.prog tab 45 [.ptr 0 0] [.box 59 [.ptr 1 0, .int .i64 (a0), .int .i64 (a1), .int .i64 (a2)], .box 87 [.ptr 2 0, .int .i64 (a3)], .box 85 [.sl (a4) 5 (a5), .int .i64 (a6)]] R := by
  refine ACalls.out (fun r => sx (fun r => .int .i64 (r.fst)) (fun r => .iface 54 (.agg [.int .i64 (r.fst), .int .i64 (r.snd.fst), .int .i64 (r.snd.snd.fst)])) r) (fun r => sx (fun r => [.box 59 [.ptr 1 0, .int .i64 (a0), .int .i64 (a1), .int .i64 (a2)], .box 87 [.ptr 2 0, .int .i64 (r.snd.fst)], .box 85 [.sl (a4) 5 (a5), .int .i64 (r.snd.snd)]]) (fun r => [.box 59 [.ptr 1 0, .int .i64 (r.snd.snd.snd.fst), .int .i64 (a1), .int .i64 (a2)], .box 87 [.ptr 2 0, .int .i64 (r.snd.snd.snd.snd.fst)], .box 85 [.sl (a4) 5 (a5), .int .i64 (r.snd.snd.snd.snd.snd)]]) r) (Q := Q) (ACalls.introX (mv := mv) tab_ok mixed_ (fn := Try.f45) (by kernel_rfl) rfl (by kernel_rfl) (by kernel_rfl) (Nat.le_of_ble_eq_true rfl) ?_) (fun v => by first | exact ⟨rfl, Nat.le_of_ble_eq_true rfl⟩ | (cases v <;> exact ⟨rfl, Nat.le_of_ble_eq_true rfl⟩)) k
  conv => whnf
  refine ACalls.inn (c___wire_Reader__S_p (W.bindE h) (fun v3 h => ?_)) ⟨rfl, rfl⟩
  conv => whnf
  refine ACalls.inn (c___seal_decoder__sure_p (W.bindE h) (fun v h => ?_)) ⟨rfl, rfl⟩
  rcases v with v4 | v5
  · conv => whnf
    refine ⟨_, Weak.a ?_, ?_, h⟩; (conv => whnf); exact ⟨rfl, rfl, rfl, rfl, rfl⟩; exact rfl
  · conv => whnf
    refine ⟨_, Weak.a ?_, ?_, h⟩; (conv => whnf); exact ⟨rfl, rfl, rfl, rfl, rfl⟩; exact rfl

theorem c___seal_decoder__span_p {a0 : Int} {a1 : Int} {a2 : Int} {a3 : Int} {a4 : Bool} {a5 : Rws} {a6 : Int} {Q : (Int × Int × Int × Int) ⊕ (Int × Int × Int × Int × Int × Int) → Prop} {R : AV → List AB → Prop} (h : (g___seal_decoder__span_p a0 a1 a2 a3 a4 a5 a6).run Q) (k : ∀ r, Q r → R (sx (fun r => .agg [.int .i64 (r.fst), .int .i64 (r.snd.fst)]) (fun r => .iface 54 (.agg [.int .i64 (r.fst), .int .i64 (r.snd.fst), .int .i64 (r.snd.snd.fst)])) r) (sx (fun r => [.box 59 [.ptr 1 0, .int .i64 (a0), .int .i64 (a1), .int .i64 (a2)], .box 87 [.ptr 2 0, .int .i64 (r.snd.snd.fst)], .box 85 [.sl (a4) 5 (a5), .int .i64 (r.snd.snd.snd)]]) (fun r => [.box 59 [.ptr 1 0, .int .i64 (r.snd.snd.snd.fst), .int .i64 (a1), .int .i64 (a2)], .box 87 [.ptr 2 0, .int .i64 (r.snd.snd.snd.snd.fst)], .box 85 [.sl (a4) 5 (a5), .int .i64 (r.snd.snd.snd.snd.snd)]]) r)) : ACalls Try.prog tab 26 [.ptr 0 0] [.box 59 [.ptr 1 0, .int .i64 (a0), .int .i64 (a1), .int .i64 (a2)], .box 87 [.ptr 2 0, .int .i64 (a3)], .box 85 [.sl (a4) 5 (a5), .int .i64 (a6)]] R := by
  refine ACalls.out (fun r => sx (fun r => .agg [.int .i64 (r.fst), .int .i64 (r.snd.fst)]) (fun r => .iface 54 (.agg [.int .i64 (r.fst), .int .i64 (r.snd.fst), .int .i64 (r.snd.snd.fst)])) r) (fun r => sx (fun r => [.box 59 [.ptr 1 0, .int .i64 (a0), .int .i64 (a1), .int .i64 (a2)], .box 87 [.ptr 2 0, .int .i64 (r.snd.snd.fst)], .box 85 [.sl (a4) 5 (a5), .int .i64 (r.snd.snd.snd)]]) (fun r => [.box 59 [.ptr 1 0, .int .i64 (r.snd.snd.snd.fst), .int .i64 (a1), .int .i64 (a2)], .box 87 [.ptr 2 0, .int .i64 (r.snd.snd.snd.snd.fst)], .box 85 [.sl (a4) 5 (a5), .int .i64 (r.snd.snd.snd.snd.snd)]]) r) (Q := Q) (ACalls.introX (mv := mv) tab_ok mixed_ (fn := Try.f26) (by kernel_rfl) rfl (by kernel_rfl) (by kernel_rfl) (Nat.le_of_ble_eq_true rfl) ?_) (fun v => by first | exact ⟨rfl, Nat.le_of_ble_eq_true rfl⟩ | (cases v <;> exact ⟨rfl, Nat.le_of_ble_eq_true rfl⟩)) k
  conv => whnf
  refine ACalls.inn (c___seal_decoder__s_p (W.bindE h) (fun v h => ?_)) ⟨rfl, rfl⟩
  rcases v with v4 | v7
  · conv => whnf
    refine ACalls.inn (c___seal_decoder__s_p (W.bindE h) (fun v h => ?_)) ⟨rfl, rfl⟩
    rcases v with v5 | v6
    · conv => whnf
      refine ⟨_, Weak.a ?_, ?_, h⟩; (conv => whnf); exact ⟨rfl, rfl, rfl, rfl, rfl⟩; exact rfl
    · conv => whnf
      refine ⟨_, Weak.a ?_, ?_, h⟩; (conv => whnf); exact ⟨rfl, rfl, rfl, rfl, rfl⟩; exact rfl
  · conv => whnf
    refine ⟨_, Weak.a ?_, ?_, h⟩; (conv => whnf); exact ⟨rfl, rfl, rfl, rfl, rfl⟩; exact rfl

theorem c___wire_Reader__U_p {a0 : Int} {a1 : Bool} {a2 : Rws} {a3 : Int} {Q : Int × Int × Int → Prop} {R : AV → List AB → Prop} (h : (g___wire_Reader__U_p a0 a1 a2 a3).run Q) (k : ∀ r, Q r → R (.int .u64 (r.fst)) ([.box 87 [.ptr 1 0, .int .i64 (r.snd.fst)], .box 85 [.sl (a1) 5 (a2), .int .i64 (r.snd.snd)]])) : ACalls Try.prog tab 57 [.ptr 0 0] [.box 87 [.ptr 1 0, .int .i64 (a0)], .box 85 [.sl (a1) 5 (a2), .int .i64 (a3)]] R := by
  refine ACalls.out (fun r => .int .u64 (r.fst)) (fun r => [.box 87 [.ptr 1 0, .int .i64 (r.snd.fst)], .box 85 [.sl (a1) 5 (a2), .int .i64 (r.snd.snd)]]) (Q := Q) (ACalls.introX (mv := mv) tab_ok mixed_ (fn := Try.f57) (by kernel_rfl) rfl (by kernel_rfl) (by kernel_rfl) (Nat.le_of_ble_eq_true rfl) ?_) (fun v => by first | exact ⟨rfl, Nat.le_of_ble_eq_true rfl⟩ | (cases v <;> exact ⟨rfl, Nat.le_of_ble_eq_true rfl⟩)) k
  conv => whnf
  refine ACalls.inn (c___wire_Reader__take_p (W.bindE h) (fun v1 h => ?_)) ⟨rfl, rfl⟩
  conv => whnf
  refine ⟨_, Weak.a ?_, ?_, h⟩; (conv => whnf); exact ⟨rfl, rfl, rfl, rfl, rfl⟩; exact rfl

theorem c___seal_decoder__u_p {a0 : Int} {a1 : Int} {a2 : Int} {a3 : Int} {a4 : Bool} {a5 : Rws} {a6 : Int} {Q : (Int × Int × Int) ⊕ (Int × Int × Int × Int × Int × Int) → Prop} {R : AV → List AB → Prop} (h : (g___seal_decoder__u_p a0 a1 a2 a3 a4 a5 a6).run Q) (k : ∀ r, Q r → R (sx (fun r => .int .i64 (r.fst)) (fun r => .iface 54 (.agg [.int .i64 (r.fst), .int .i64 (r.snd.fst), .int .i64 (r.snd.snd.fst)])) r) (sx (fun r => [.box 59 [.ptr 1 0, .int .i64 (a0), .int .i64 (a1), .int .i64 (a2)], .box 87 [.ptr 2 0, .int .i64 (r.snd.fst)], .box 85 [.sl (a4) 5 (a5), .int .i64 (r.snd.snd)]]) (fun r => [.box 59 [.ptr 1 0, .int .i64 (r.snd.snd.snd.fst), .int .i64 (a1), .int .i64 (a2)], .box 87 [.ptr 2 0, .int .i64 (r.snd.snd.snd.snd.fst)], .box 85 [.sl (a4) 5 (a5), .int .i64 (r.snd.snd.snd.snd.snd)]]) r)) : ACalls Try.prog tab 46 [.ptr 0 0] [.box 59 [.ptr 1 0, .int .i64 (a0), .int .i64 (a1), .int .i64 (a2)], .box 87 [.ptr 2 0, .int .i64 (a3)], .box 85 [.sl (a4) 5 (a5), .int .i64 (a6)]] R := by
  refine ACalls.out (fun r => sx (fun r => .int .i64 (r.fst)) (fun r => .iface 54 (.agg [.int .i64 (r.fst), .int .i64 (r.snd.fst), .int .i64 (r.snd.snd.fst)])) r) (fun r => sx (fun r => [.box 59 [.ptr 1 0, .int .i64 (a0), .int .i64 (a1), .int .i64 (a2)], .box 87 [.ptr 2 0, .int .i64 (r.snd.fst)], .box 85 [.sl (a4) 5 (a5), .int .i64 (r.snd.snd)]]) (fun r => [.box 59 [.ptr 1 0, .int .i64 (r.snd.snd.snd.fst), .int .i64 (a1), .int .i64 (a2)], .box 87 [.ptr 2 0, .int .i64 (r.snd.snd.snd.snd.fst)], .box 85 [.sl (a4) 5 (a5), .int .i64 (r.snd.snd.snd.snd.snd)]]) r) (Q := Q) (ACalls.introX (mv := mv) tab_ok mixed_ (fn := Try.f46) (by kernel_rfl) rfl (by kernel_rfl) (by kernel_rfl) (Nat.le_of_ble_eq_true rfl) ?_) (fun v => by first | exact ⟨rfl, Nat.le_of_ble_eq_true rfl⟩ | (cases v <;> exact ⟨rfl, Nat.le_of_ble_eq_true rfl⟩)) k
  conv => whnf
  refine ACalls.inn (c___wire_Reader__U_p (W.bindE h) (fun v4 h => ?_)) ⟨rfl, rfl⟩
  conv => whnf
  refine ACalls.inn (c___seal_decoder__sure_p (W.bindE h) (fun v h => ?_)) ⟨rfl, rfl⟩
  rcases v with v5 | v7
  · conv => whnf
    refine ASeq.go tab_ok mixed_ ?_
    conv => whnf
    refine XSplit.mk (fun e => ?_) (fun e => ?_)
    · replace h := XSplit.t h e
      conv => whnf
      refine ACalls.inn (c___seal_decoder__giveUp_p_2 (W.bindE h) (fun v6 h => ?_)) ⟨rfl, rfl⟩
      conv => whnf
      refine ⟨_, Weak.a ?_, ?_, h⟩; (conv => whnf); exact ⟨rfl, rfl, rfl, rfl, rfl⟩; exact rfl
    · replace h := XSplit.f h e
      conv => whnf
      refine ⟨_, Weak.a ?_, ?_, h⟩; (conv => whnf); exact ⟨rfl, rfl, rfl, rfl, rfl⟩; exact rfl
  · conv => whnf
    refine ⟨_, Weak.a ?_, ?_, h⟩; (conv => whnf); exact ⟨rfl, rfl, rfl, rfl, rfl⟩; exact rfl

theorem c___seal_decoder__list_p {a0 : Int} {a1 : Int} {a2 : Int} {a3 : Int} {a4 : Bool} {a5 : Rws} {a6 : Int} {Q : (Int × Int × Int × Bool × Rws) ⊕ (Int × Int × Int × Int × Int × Int × Int) → Prop} {R : AV → List AB → Prop} (h : (g___seal_decoder__list_p a0 a1 a2 a3 a4 a5 a6).run Q) (k : ∀ r, Q r → R (sx (fun r => .own 3) (fun r => .iface 54 (.agg [.int .i64 (r.fst), .int .i64 (r.snd.fst), .int .i64 (r.snd.snd.fst)])) r) (sx (fun r => [.box 59 [.ptr 1 0, .int .i64 (a0), .int .i64 (a1), .int .i64 (r.fst)], .box 87 [.ptr 2 0, .int .i64 (r.snd.fst)], .box 85 [.sl (a4) 5 (a5), .int .i64 (r.snd.snd.fst)], .arr true 46 (r.snd.snd.snd.fst) (r.snd.snd.snd.snd)]) (fun r => [.box 59 [.ptr 1 0, .int .i64 (r.snd.snd.snd.fst), .int .i64 (a1), .int .i64 (r.snd.snd.snd.snd.fst)], .box 87 [.ptr 2 0, .int .i64 (r.snd.snd.snd.snd.snd.fst)], .box 85 [.sl (a4) 5 (a5), .int .i64 (r.snd.snd.snd.snd.snd.snd)]]) r)) : ACalls Try.prog tab 27 [.ptr 0 0] [.box 59 [.ptr 1 0, .int .i64 (a0), .int .i64 (a1), .int .i64 (a2)], .box 87 [.ptr 2 0, .int .i64 (a3)], .box 85 [.sl (a4) 5 (a5), .int .i64 (a6)]] R := by
  refine ACalls.out (fun r => sx (fun r => .own 3) (fun r => .iface 54 (.agg [.int .i64 (r.fst), .int .i64 (r.snd.fst), .int .i64 (r.snd.snd.fst)])) r) (fun r => sx (fun r => [.box 59 [.ptr 1 0, .int .i64 (a0), .int .i64 (a1), .int .i64 (r.fst)], .box 87 [.ptr 2 0, .int .i64 (r.snd.fst)], .box 85 [.sl (a4) 5 (a5), .int .i64 (r.snd.snd.fst)], .arr true 46 (r.snd.snd.snd.fst) (r.snd.snd.snd.snd)]) (fun r => [.box 59 [.ptr 1 0, .int .i64 (r.snd.snd.snd.fst), .int .i64 (a1), .int .i64 (r.snd.snd.snd.snd.fst)], .box 87 [.ptr 2 0, .int .i64 (r.snd.snd.snd.snd.snd.fst)], .box 85 [.sl (a4) 5 (a5), .int .i64 (r.snd.snd.snd.snd.snd.snd)]]) r) (Q := Q) (ACalls.introX (mv := mv) tab_ok mixed_ (fn := Try.f27) (by kernel_rfl) rfl (by kernel_rfl) (by kernel_rfl) (Nat.le_of_ble_eq_true rfl) ?_) (fun v => by first | exact ⟨rfl, Nat.le_of_ble_eq_true rfl⟩ | (cases v <;> exact ⟨rfl, Nat.le_of_ble_eq_true rfl⟩)) k
  conv => whnf
  refine ASeq.go tab_ok mixed_ ?_
  conv => whnf
  refine ACalls.inn (c___seal_decoder__count_p (W.bindE h) (fun v h => ?_)) ⟨rfl, rfl⟩
  rcases v with v12 | v23
  · conv => whnf
    refine ALoop.ofWE tab_ok mixed_ (fun v13 => ⟨[(0, .ptr 0 0), (2, .nils), (3, .own 3), (6, .int .i64 (v12.fst)), (7, .int .i64 (v13.fst))], [(0, .box 59 [.ptr 1 0, .int .i64 (a0), .int .i64 (a1), .int .i64 (v13.snd.fst)]), (1, .box 87 [.ptr 2 0, .int .i64 (v13.snd.snd.fst)]), (2, .box 85 [.sl (a4) 5 (a5), .int .i64 (v13.snd.snd.snd.fst)]), (3, .arr true 46 (v13.snd.snd.snd.snd.fst) (v13.snd.snd.snd.snd.snd))], 4, [], []⟩) (fun v14 => (.exit 0, ⟨[(0, .ptr 0 0), (2, .nils), (3, .own 3)], [(0, .box 59 [.ptr 1 0, .int .i64 (a0), .int .i64 (a1), .int .i64 (v14.fst)]), (1, .box 87 [.ptr 2 0, .int .i64 (v14.snd.fst)]), (2, .box 85 [.sl (a4) 5 (a5), .int .i64 (v14.snd.snd.fst)]), (3, .arr true 46 (v14.snd.snd.snd.fst) (v14.snd.snd.snd.snd))], 4, [], []⟩)) (W.bindE h) (Weak.a ?_) (fun v13 I Q hK0 h => ?_) (fun v14 h => ?_)
    · conv => whnf
      exact ⟨rfl, rfl, rfl, rfl, rfl⟩
    · conv => whnf
      refine ASeq.go tab_ok mixed_ ?_
      conv => whnf
      refine XSplit.mk (fun e => ?_) (fun e => ?_)
      · replace h := XSplit.t h e
        conv => whnf
        refine ASeq.go tab_ok mixed_ ?_
        conv => whnf
        refine ACalls.inn (c___seal_decoder__u_p (W.bindE h) (fun v h => ?_)) ⟨rfl, rfl⟩
        rcases v with v15 | v22
        · conv => whnf
          refine ACalls.inn (c___seal_decoder__u_p (W.bindE h) (fun v h => ?_)) ⟨rfl, rfl⟩
          rcases v with v16 | v21
          · conv => whnf
            refine ACalls.inn (c___seal_decoder__span_p (W.bindE h) (fun v h => ?_)) ⟨rfl, rfl⟩
            rcases v with v17 | v20
            · conv => whnf
              refine ACalls.inn (c___seal_decoder__span_p (W.bindE h) (fun v h => ?_)) ⟨rfl, rfl⟩
              rcases v with v18 | v19
              · conv => whnf
                refine XNeed.mk (XNeed.c h) ?_; replace h := XNeed.x h
                conv => whnf
                refine ⟨_, Weak.a ?_, h⟩; (conv => whnf); exact ⟨rfl, rfl, rfl, rfl, rfl⟩
              · conv => whnf
                refine ⟨_, Weak.a ?_, ?_, (hK0 _ h)⟩; (conv => whnf); exact ⟨rfl, rfl, rfl, rfl, rfl⟩; exact rfl
            · conv => whnf
              refine ⟨_, Weak.a ?_, ?_, (hK0 _ h)⟩; (conv => whnf); exact ⟨rfl, rfl, rfl, rfl, rfl⟩; exact rfl
          · conv => whnf
            refine ⟨_, Weak.a ?_, ?_, (hK0 _ h)⟩; (conv => whnf); exact ⟨rfl, rfl, rfl, rfl, rfl⟩; exact rfl
        · conv => whnf
          refine ⟨_, Weak.a ?_, ?_, (hK0 _ h)⟩; (conv => whnf); exact ⟨rfl, rfl, rfl, rfl, rfl⟩; exact rfl
      · replace h := XSplit.f h e
        conv => whnf
        refine ⟨_, ?_, Weak.a ?_, h⟩; exact rfl; (conv => whnf); exact ⟨rfl, rfl, rfl, rfl, rfl⟩
    · conv => whnf
      refine ⟨_, Weak.a ?_, ?_, h⟩; (conv => whnf); exact ⟨rfl, rfl, rfl, rfl, rfl⟩; exact rfl
  · conv => whnf
    refine ⟨_, Weak.a ?_, ?_, h⟩; (conv => whnf); exact ⟨rfl, rfl, rfl, rfl, rfl⟩; exact rfl

theorem c___wire_cursor__Left_p {a0 : Bool} {a1 : Rws} {a2 : Int} {Q : Int → Prop} {R : AV → List AB → Prop} (h : (g___wire_cursor__Left_p a0 a1 a2).run Q) (k : ∀ r, Q r → R (.int .i64 (r)) ([.box 85 [.sl (a0) 5 (a1), .int .i64 (a2)]])) : ACalls Try.prog tab 58 [.ptr 0 0] [.box 85 [.sl (a0) 5 (a1), .int .i64 (a2)]] R := by
  refine ACalls.out (fun r => .int .i64 (r)) (fun r => [.box 85 [.sl (a0) 5 (a1), .int .i64 (a2)]]) (Q := Q) (ACalls.introX (mv := mv) tab_ok mixed_ (fn := Try.f58) (by kernel_rfl) rfl (by kernel_rfl) (by kernel_rfl) (Nat.le_of_ble_eq_true rfl) ?_) (fun v => by first | exact ⟨rfl, Nat.le_of_ble_eq_true rfl⟩ | (cases v <;> exact ⟨rfl, Nat.le_of_ble_eq_true rfl⟩)) k
  conv => whnf
  refine ASeq.go tab_ok mixed_ ?_
  conv => whnf
  refine XSplit.ff rfl ?_
  conv => whnf
  refine XDraw.q [0, 1, 2, 3, 4, 5, 6, 7, 8, 9, 10] (by decide +kernel) ?_
  conv => whnf
  refine ⟨_, Weak.a ?_, ?_, h⟩; (conv => whnf); exact ⟨rfl, rfl, rfl, rfl, rfl⟩; exact rfl

theorem c___wire_Reader__Left_p {a0 : Int} {a1 : Bool} {a2 : Rws} {a3 : Int} {Q : Int → Prop} {R : AV → List AB → Prop} (h : (g___wire_Reader__Left_p a0 a1 a2 a3).run Q) (k : ∀ r, Q r → R (.int .i64 (r)) ([.box 87 [.ptr 1 0, .int .i64 (a0)], .box 85 [.sl (a1) 5 (a2), .int .i64 (a3)]])) : ACalls Try.prog tab 48 [.ptr 0 0] [.box 87 [.ptr 1 0, .int .i64 (a0)], .box 85 [.sl (a1) 5 (a2), .int .i64 (a3)]] R := by
  refine ACalls.out (fun r => .int .i64 (r)) (fun r => [.box 87 [.ptr 1 0, .int .i64 (a0)], .box 85 [.sl (a1) 5 (a2), .int .i64 (a3)]]) (Q := Q) (ACalls.introX (mv := mv) tab_ok mixed_ (fn := Try.f48) (by kernel_rfl) rfl (by kernel_rfl) (by kernel_rfl) (Nat.le_of_ble_eq_true rfl) ?_) (fun v => by first | exact ⟨rfl, Nat.le_of_ble_eq_true rfl⟩ | (cases v <;> exact ⟨rfl, Nat.le_of_ble_eq_true rfl⟩)) k
  conv => whnf
  refine ASeq.go tab_ok mixed_ ?_
  conv => whnf
  refine XSplit.ff rfl ?_
  conv => whnf
  refine ACalls.inn (c___wire_cursor__Left_p (W.bindE h) (fun v1 h => ?_)) ⟨rfl, rfl⟩
  conv => whnf
  refine ⟨_, Weak.a ?_, ?_, h⟩; (conv => whnf); exact ⟨rfl, rfl, rfl, rfl, rfl⟩; exact rfl

theorem c___wire_Reader__End_p {a0 : Int} {a1 : Bool} {a2 : Rws} {a3 : Int} {Q : Int → Prop} {R : AV → List AB → Prop} (h : (g___wire_Reader__End_p a0 a1 a2 a3).run Q) (k : ∀ r, Q r → R (.int .i64 (r)) ([.box 87 [.ptr 1 0, .int .i64 (a0)], .box 85 [.sl (a1) 5 (a2), .int .i64 (a3)]])) : ACalls Try.prog tab 28 [.ptr 0 0] [.box 87 [.ptr 1 0, .int .i64 (a0)], .box 85 [.sl (a1) 5 (a2), .int .i64 (a3)]] R := by
  refine ACalls.out (fun r => .int .i64 (r)) (fun r => [.box 87 [.ptr 1 0, .int .i64 (a0)], .box 85 [.sl (a1) 5 (a2), .int .i64 (a3)]]) (Q := Q) (ACalls.introX (mv := mv) tab_ok mixed_ (fn := Try.f28) (by kernel_rfl) rfl (by kernel_rfl) (by kernel_rfl) (Nat.le_of_ble_eq_true rfl) ?_) (fun v => by first | exact ⟨rfl, Nat.le_of_ble_eq_true rfl⟩ | (cases v <;> exact ⟨rfl, Nat.le_of_ble_eq_true rfl⟩)) k
  conv => whnf
  refine ASeq.go tab_ok mixed_ ?_
  conv => whnf
  refine ACalls.inn (c___wire_Reader__Err_p (W.bindE h) (fun v3 h => ?_)) ⟨rfl, rfl⟩
  conv => whnf
  refine ASeq.joinW tab_ok mixed_ (fun v4 => ⟨[(2, .int .i64 (0)), (3, .int .i64 (v3)), (12, .bool (v4))], [(0, .box 87 [.ptr 1 0, .int .i64 (a0)]), (1, .box 85 [.sl (a1) 5 (a2), .int .i64 (a3)])], 2, [], []⟩) h (fun Q h => ?_) (fun v4 h => ?_)
  · conv => whnf
    refine XSplit.mk (fun e => ?_) (fun e => ?_)
    · replace h := XSplit.t h e
      conv => whnf
      refine ⟨_, Weak.a ?_, h⟩; (conv => whnf); exact ⟨rfl, rfl, rfl, rfl, rfl⟩
    · replace h := XSplit.f h e
      conv => whnf
      refine ACalls.inn (c___wire_Reader__Left_p (W.bindE h) (fun v5 h => ?_)) ⟨rfl, rfl⟩
      conv => whnf
      refine ⟨_, Weak.a ?_, h⟩; (conv => whnf); exact ⟨rfl, rfl, rfl, rfl, rfl⟩
  · conv => whnf
    refine XSplit.mk (fun e => ?_) (fun e => ?_)
    · replace h := XSplit.t h e
      conv => whnf
      refine ⟨_, Weak.a ?_, ?_, h⟩; (conv => whnf); exact ⟨rfl, rfl, rfl, rfl, rfl⟩; exact rfl
    · replace h := XSplit.f h e
      conv => whnf
      refine ⟨_, Weak.a ?_, ?_, h⟩; (conv => whnf); exact ⟨rfl, rfl, rfl, rfl, rfl⟩; exact rfl

theorem c_seal_Decode {a0 : Bool} {a1 : Rws} {Q : Int × Int × Int × Bool × Rws × Bool × Rws → Prop} {R : AV → List AB → Prop} (h : (g_seal_Decode a0 a1).run Q) (k : ∀ r, Q r → R (.tup [.agg [.own 0, .own 1], .agg [.int .i64 (r.fst), .int .i64 (r.snd.fst), .int .i64 (r.snd.snd.fst)]]) ([.arr true 43 (r.snd.snd.snd.fst) (r.snd.snd.snd.snd.fst), .arr true 44 (r.snd.snd.snd.snd.snd.fst) (r.snd.snd.snd.snd.snd.snd)])) : ACalls Try.prog tab 14 [.sl (a0) 5 (a1)] [] R := by
  refine ACalls.out (fun r => .tup [.agg [.own 0, .own 1], .agg [.int .i64 (r.fst), .int .i64 (r.snd.fst), .int .i64 (r.snd.snd.fst)]]) (fun r => [.arr true 43 (r.snd.snd.snd.fst) (r.snd.snd.snd.snd.fst), .arr true 44 (r.snd.snd.snd.snd.snd.fst) (r.snd.snd.snd.snd.snd.snd)]) (Q := Q) (ACalls.introD (mv := mv) tab_ok mixed_ 2 [2, 3] (f2 := 22) (fn := Try.f14) (fn2 := Try.f22) (by kernel_rfl) rfl (by kernel_rfl) rfl rfl rfl rfl rfl rfl rfl (by kernel_rfl) rfl (by kernel_rfl) rfl rfl rfl rfl rfl rfl (by kernel_rfl) (by kernel_rfl) (fun _ => by kernel_rfl) (by decide) (by kernel_rfl) (by kernel_rfl) (Nat.le_of_ble_eq_true rfl) (Nat.le_of_ble_eq_true rfl) ?_) (fun v => by first | exact ⟨rfl, Nat.le_of_ble_eq_true rfl⟩ | (cases v <;> exact ⟨rfl, Nat.le_of_ble_eq_true rfl⟩)) k
  conv => whnf
  refine ASeq.go tab_ok mixed_ ?_
  conv => whnf
  refine XSplit.mk (fun e => ?_) (fun e => ?_)
  · replace h := XSplit.t h e
    conv => whnf
    refine ACalls.inn (c___seal_decoder__giveUp_p (W.bindE h) (fun v17 h => ?_)) ⟨rfl, rfl⟩
    conv => whnf
    refine XDraw.d [0, 1, 2, 3] [[], [], [0], [1]] (by decide +kernel) ?_
    conv => whnf
    refine ⟨_, Weak.a ?_, ?_, h⟩; (conv => whnf); exact ⟨rfl, rfl, rfl, rfl, rfl⟩; exact rfl
  · replace h := XSplit.f h e
    conv => whnf
    refine ASeq.go tab_ok mixed_ ?_
    conv => whnf
    refine XNeed.mk (XNeed.c h) ?_; replace h := XNeed.x h
    conv => whnf
    refine XSplit.mk (fun e => ?_) (fun e => ?_)
    · replace h := XSplit.t h e
      conv => whnf
      refine ACalls.inn (c___seal_decoder__giveUp_p (W.bindE h) (fun v18 h => ?_)) ⟨rfl, rfl⟩
      conv => whnf
      refine XDraw.d [0, 1, 2, 3] [[], [], [0], [1]] (by decide +kernel) ?_
      conv => whnf
      refine ⟨_, Weak.a ?_, ?_, h⟩; (conv => whnf); exact ⟨rfl, rfl, rfl, rfl, rfl⟩; exact rfl
    · replace h := XSplit.f h e
      conv => whnf
      refine XNeed.mk (XNeed.c h) ?_; replace h := XNeed.x h
      conv => whnf
      refine ACalls.inn (c_wire_New (W.bindE h) (fun v19 h => ?_)) ⟨rfl, rfl⟩
      conv => whnf
      refine ASeq.go tab_ok mixed_ ?_
      conv => whnf
      refine ACalls.inn (c___seal_decoder__count_p (W.bindE h) (fun v h => ?_)) ⟨rfl, rfl⟩
      rcases v with v20 | v33
      · conv => whnf
        refine ALoop.ofWE tab_ok mixed_ (fun v21 => ⟨[(0, .sl (a0) 5 (a1)), (2, .ptr 0 0), (3, .ptr 1 0), (4, .ptr 2 0), (7, .fn 22 [] [.ptr 0 0, .ptr 1 0]), (8, .agg [.nilp, .int .i64 (0), .int .i64 (0), .int .i64 (0)]), (9, .ptr 2 0), (10, .sl (a0) 5 (a1)), (11, .int .i64 ((↑(List.length a1) : Int))), (28, .int .i64 (v20.fst)), (29, .int .i64 (v21.fst))], [(0, .box 25 [.own 3, .nils]), (1, .box 30 [.int .i64 (0), .int .i64 (0), .int .i64 (0)]), (2, .box 59 [.ptr 4 0, .int .i64 (0), .int .i64 (0), .int .i64 (0)]), (3, .arr true 43 (v21.snd.fst) (v21.snd.snd.fst)), (4, .box 87 [.ptr 5 0, .int .i64 (v21.snd.snd.snd.fst)]), (5, .box 85 [.sl (v19.snd.snd.fst) 5 (v19.snd.snd.snd), .int .i64 (v21.snd.snd.snd.snd)])], 6, [], []⟩) (fun v22 => (.exit 0, ⟨[(0, .sl (a0) 5 (a1)), (2, .ptr 0 0), (3, .ptr 1 0), (4, .ptr 2 0), (7, .fn 22 [] [.ptr 0 0, .ptr 1 0]), (8, .agg [.nilp, .int .i64 (0), .int .i64 (0), .int .i64 (0)]), (9, .ptr 2 0), (10, .sl (a0) 5 (a1)), (11, .int .i64 ((↑(List.length a1) : Int)))], [(0, .box 25 [.own 3, .nils]), (1, .box 30 [.int .i64 (0), .int .i64 (0), .int .i64 (0)]), (2, .box 59 [.ptr 4 0, .int .i64 (0), .int .i64 (0), .int .i64 (0)]), (3, .arr true 43 (v22.fst) (v22.snd.fst)), (4, .box 87 [.ptr 5 0, .int .i64 (v22.snd.snd.fst)]), (5, .box 85 [.sl (v19.snd.snd.fst) 5 (v19.snd.snd.snd), .int .i64 (v22.snd.snd.snd)])], 6, [], []⟩)) (W.bindE h) (Weak.a ?_) (fun v21 I Q hK0 h => ?_) (fun v22 h => ?_)
        · conv => whnf
          exact ⟨rfl, rfl, rfl, rfl, rfl⟩
        · conv => whnf
          refine ASeq.go tab_ok mixed_ ?_
          conv => whnf
          refine XSplit.mk (fun e => ?_) (fun e => ?_)
          · replace h := XSplit.t h e
            conv => whnf
            refine ASeq.go tab_ok mixed_ ?_
            conv => whnf
            refine XDraw.d [0, 1, 2, 3, 4, 5, 6, 7] [[], [], [], [2, 4, 5], [], [3], [], [0]] (by decide +kernel) ?_
            conv => whnf
            refine ACalls.inn (c___seal_decoder__span_p (W.bindE h) (fun v h => ?_)) ⟨rfl, rfl⟩
            rcases v with v23 | v24
            · conv => whnf
              refine XNeed.mk (XNeed.c h) ?_; replace h := XNeed.x h
              conv => whnf
              refine ⟨_, Weak.a ?_, h⟩; (conv => whnf); exact ⟨rfl, rfl, rfl, rfl, rfl⟩
            · conv => whnf
              refine XDraw.d [0, 1, 2, 3] [[], [], [0], [1]] (by decide +kernel) ?_
              conv => whnf
              refine ⟨_, Weak.a ?_, ?_, (hK0 _ h)⟩; (conv => whnf); exact ⟨rfl, rfl, rfl, rfl, rfl⟩; exact rfl
          · replace h := XSplit.f h e
            conv => whnf
            refine ⟨_, ?_, Weak.a ?_, h⟩; exact rfl; (conv => whnf); exact ⟨rfl, rfl, rfl, rfl, rfl⟩
        · conv => whnf
          refine ASeq.go tab_ok mixed_ ?_
          conv => whnf
          refine ACalls.inn (c___seal_decoder__count_p (W.bindE h) (fun v h => ?_)) ⟨rfl, rfl⟩
          rcases v with v25 | v32
          · conv => whnf
            refine ALoop.ofWE tab_ok mixed_ (fun v26 => ⟨[(0, .sl (a0) 5 (a1)), (2, .ptr 0 0), (3, .ptr 1 0), (4, .ptr 2 0), (7, .fn 22 [] [.ptr 0 0, .ptr 1 0]), (8, .agg [.nilp, .int .i64 (0), .int .i64 (0), .int .i64 (0)]), (9, .ptr 2 0), (10, .sl (a0) 5 (a1)), (11, .int .i64 ((↑(List.length a1) : Int))), (40, .int .i64 (v25.fst)), (41, .int .i64 (v26.fst))], [(0, .box 25 [.own 3, .own 4]), (1, .box 30 [.int .i64 (0), .int .i64 (0), .int .i64 (0)]), (2, .box 59 [.ptr 5 0, .int .i64 (0), .int .i64 (v26.snd.fst), .int .i64 (v26.snd.snd.fst)]), (3, .arr true 43 (v22.fst) (v22.snd.fst)), (4, .arr true 44 (v26.snd.snd.snd.fst) (v26.snd.snd.snd.snd.fst)), (5, .box 87 [.ptr 6 0, .int .i64 (v26.snd.snd.snd.snd.snd.fst)]), (6, .box 85 [.sl (v19.snd.snd.fst) 5 (v19.snd.snd.snd), .int .i64 (v26.snd.snd.snd.snd.snd.snd)])], 7, [], []⟩) (fun v27 => (.exit 2, ⟨[(0, .sl (a0) 5 (a1)), (2, .ptr 0 0), (3, .ptr 1 0), (4, .ptr 2 0), (7, .fn 22 [] [.ptr 0 0, .ptr 1 0]), (8, .agg [.nilp, .int .i64 (0), .int .i64 (0), .int .i64 (0)]), (9, .ptr 2 0), (10, .sl (a0) 5 (a1)), (11, .int .i64 ((↑(List.length a1) : Int)))], [(0, .box 25 [.own 3, .own 4]), (1, .box 30 [.int .i64 (0), .int .i64 (0), .int .i64 (0)]), (2, .box 59 [.ptr 5 0, .int .i64 (0), .int .i64 (v27.fst), .int .i64 (v27.snd.fst)]), (3, .arr true 43 (v22.fst) (v22.snd.fst)), (4, .arr true 44 (v27.snd.snd.fst) (v27.snd.snd.snd.fst)), (5, .box 87 [.ptr 6 0, .int .i64 (v27.snd.snd.snd.snd.fst)]), (6, .box 85 [.sl (v19.snd.snd.fst) 5 (v19.snd.snd.snd), .int .i64 (v27.snd.snd.snd.snd.snd)])], 7, [], []⟩)) (W.bindE h) (Weak.a ?_) (fun v26 I Q hK0 h => ?_) (fun v27 h => ?_)
            · conv => whnf
              exact ⟨rfl, rfl, rfl, rfl, rfl⟩
            · conv => whnf
              refine ASeq.go tab_ok mixed_ ?_
              conv => whnf
              refine XSplit.mk (fun e => ?_) (fun e => ?_)
              · replace h := XSplit.t h e
                conv => whnf
                refine ASeq.go tab_ok mixed_ ?_
                conv => whnf
                refine XDraw.d [0, 1, 2, 3, 4, 5, 6, 7] [[], [], [], [2, 5, 6], [], [4], [], [0]] (by decide +kernel) ?_
                conv => whnf
                refine ACalls.inn (c___seal_decoder__list_p (W.bindE h) (fun v h => ?_)) ⟨rfl, rfl⟩
                rcases v with v28 | v29
                · conv => whnf
                  refine XNeed.mk (XNeed.c h) ?_; replace h := XNeed.x h
                  conv => whnf
                  refine ⟨_, Weak.a ?_, h⟩; (conv => whnf); exact ⟨rfl, rfl, rfl, rfl, rfl⟩
                · conv => whnf
                  refine XDraw.d [0, 1, 2, 3] [[], [], [0], [1]] (by decide +kernel) ?_
                  conv => whnf
                  refine ⟨_, Weak.a ?_, ?_, (hK0 _ h)⟩; (conv => whnf); exact ⟨rfl, rfl, rfl, rfl, rfl⟩; exact rfl
              · replace h := XSplit.f h e
                conv => whnf
                refine ⟨_, ?_, Weak.a ?_, h⟩; exact rfl; (conv => whnf); exact ⟨rfl, rfl, rfl, rfl, rfl⟩
            · conv => whnf
              refine ASeq.go tab_ok mixed_ ?_
              conv => whnf
              refine ACalls.inn (c___wire_Reader__End_p (W.bindE h) (fun v30 h => ?_)) ⟨rfl, rfl⟩
              conv => whnf
              refine XSplit.mk (fun e => ?_) (fun e => ?_)
              · replace h := XSplit.t h e
                conv => whnf
                refine ACalls.inn (c___seal_decoder__giveUp_p_2 (W.bindE h) (fun v31 h => ?_)) ⟨rfl, rfl⟩
                conv => whnf
                refine XDraw.d [0, 1, 2, 3] [[], [], [0], [1]] (by decide +kernel) ?_
                conv => whnf
                refine ⟨_, Weak.a ?_, ?_, h⟩; (conv => whnf); exact ⟨rfl, rfl, rfl, rfl, rfl⟩; exact rfl
              · replace h := XSplit.f h e
                conv => whnf
                refine ⟨_, Weak.a ?_, ?_, h⟩; (conv => whnf); exact ⟨rfl, rfl, rfl, rfl, rfl⟩; exact rfl
          · conv => whnf
            refine XDraw.d [0, 1, 2, 3] [[], [], [0], [1]] (by decide +kernel) ?_
            conv => whnf
            refine ⟨_, Weak.a ?_, ?_, h⟩; (conv => whnf); exact ⟨rfl, rfl, rfl, rfl, rfl⟩; exact rfl
      · conv => whnf
        refine XDraw.d [0, 1, 2, 3] [[], [], [0], [1]] (by decide +kernel) ?_
        conv => whnf
        refine ⟨_, Weak.a ?_, ?_, h⟩; (conv => whnf); exact ⟨rfl, rfl, rfl, rfl, rfl⟩; exact rfl

theorem c_law16_same {a0 : Bool} {a1 : Rws} {a2 : Bool} {a3 : Rws} {Q : Bool → Prop} {R : AV → List AB → Prop} (h : (g_law16_same a0 a1 a2 a3).run Q) (k : ∀ r, Q r → R (.bool (r)) ([])) : ACalls Try.prog tab 12 [.sl (a0) 5 (a1), .sl (a2) 5 (a3)] [] R := by
  refine ACalls.out (fun r => .bool (r)) (fun r => []) (Q := Q) (ACalls.introX (mv := mv) tab_ok mixed_ (fn := Try.f12) (by kernel_rfl) rfl (by kernel_rfl) (by kernel_rfl) (Nat.le_of_ble_eq_true rfl) ?_) (fun v => by first | exact ⟨rfl, Nat.le_of_ble_eq_true rfl⟩ | (cases v <;> exact ⟨rfl, Nat.le_of_ble_eq_true rfl⟩)) k
  conv => whnf
  refine ASeq.go tab_ok mixed_ ?_
  conv => whnf
  refine XSplit.mk (fun e => ?_) (fun e => ?_)
  · replace h := XSplit.t h e
    conv => whnf
    refine ⟨_, Weak.a ?_, ?_, h⟩; (conv => whnf); exact ⟨rfl, rfl, rfl, rfl, rfl⟩; exact rfl
  · replace h := XSplit.f h e
    conv => whnf
    refine ASeq.go tab_ok mixed_ ?_
    conv => whnf
    refine ALoop.ofW tab_ok mixed_ (fun v3 => ⟨[(0, .sl (a0) 5 (a1)), (1, .sl (a2) 5 (a3)), (4, .kb false), (12, .int .i64 ((↑(List.length a1) : Int))), (13, .int .i64 (v3))], [], 0, [], []⟩) (sx (fun v4 => (.ret, ⟨[(4, .kb false)], [], 0, [], []⟩)) (fun v5 => (.exit 0, ⟨[(4, .kb false)], [], 0, [], []⟩))) (W.bindE h) (Weak.a ?_) (fun v3 I Q h => ?_) (fun v h => ?_)
    · conv => whnf
      exact ⟨rfl, rfl, rfl, rfl, rfl⟩
    · conv => whnf
      refine ASeq.go tab_ok mixed_ ?_
      conv => whnf
      refine XSplit.mk (fun e => ?_) (fun e => ?_)
      · replace h := XSplit.t h e
        conv => whnf
        refine ASeq.go tab_ok mixed_ ?_
        conv => whnf
        refine XDraw.q [0, 1, 2, 3, 4, 5, 6, 7, 8] (by decide +kernel) ?_
        conv => whnf
        refine XNeed.mk (XNeed.c h) ?_; replace h := XNeed.x h
        conv => whnf
        refine XNeed.mk (XNeed.c h) ?_; replace h := XNeed.x h
        conv => whnf
        refine XSplit.mk (fun e => ?_) (fun e => ?_)
        · replace h := XSplit.t h e
          conv => whnf
          refine ⟨_, ?_, Weak.a ?_, h⟩; exact rfl; (conv => whnf); exact ⟨rfl, rfl, rfl, rfl, rfl⟩
        · replace h := XSplit.f h e
          conv => whnf
          refine ⟨_, Weak.a ?_, h⟩; (conv => whnf); exact ⟨rfl, rfl, rfl, rfl, rfl⟩
      · replace h := XSplit.f h e
        conv => whnf
        refine ⟨_, ?_, Weak.a ?_, h⟩; exact rfl; (conv => whnf); exact ⟨rfl, rfl, rfl, rfl, rfl⟩
    · rcases v with v4 | v5
      · conv => whnf
        refine ⟨_, Weak.a ?_, ?_, h⟩; (conv => whnf); exact ⟨rfl, rfl, rfl, rfl, rfl⟩; exact rfl
      · conv => whnf
        refine ⟨_, Weak.a ?_, ?_, h⟩; (conv => whnf); exact ⟨rfl, rfl, rfl, rfl, rfl⟩; exact rfl

theorem c_ref15_Same {a0 : Bool} {a1 : Rws} {a2 : Bool} {a3 : Rws} {a4 : Bool} {a5 : Rws} {a6 : Bool} {a7 : Rws} {Q : Bool → Prop} {R : AV → List AB → Prop} (h : (g_ref15_Same a0 a1 a2 a3 a4 a5 a6 a7).run Q) (k : ∀ r, Q r → R (.bool (r)) ([])) : ACalls Try.prog tab 13 [.agg [.sl (a0) 43 (a1), .sl (a2) 44 (a3)], .agg [.sl (a4) 43 (a5), .sl (a6) 44 (a7)]] [] R := by
  refine ACalls.out (fun r => .bool (r)) (fun r => []) (Q := Q) (ACalls.introX (mv := mv) tab_ok mixed_ (fn := Try.f13) (by kernel_rfl) rfl (by kernel_rfl) (by kernel_rfl) (Nat.le_of_ble_eq_true rfl) ?_) (fun v => by first | exact ⟨rfl, Nat.le_of_ble_eq_true rfl⟩ | (cases v <;> exact ⟨rfl, Nat.le_of_ble_eq_true rfl⟩)) k
  conv => whnf
  refine ASeq.go tab_ok mixed_ ?_
  conv => whnf
  refine XSplit.mk (fun e => ?_) (fun e => ?_)
  · replace h := XSplit.t h e
    conv => whnf
    refine ⟨_, Weak.a ?_, ?_, h⟩; (conv => whnf); exact ⟨rfl, rfl, rfl, rfl, rfl⟩; exact rfl
  · replace h := XSplit.f h e
    conv => whnf
    refine ASeq.go tab_ok mixed_ ?_
    conv => whnf
    refine ALoop.ofW tab_ok mixed_ (fun v9 => ⟨[(2, .ptr 0 0), (3, .ptr 1 0), (4, .kb false), (26, .int .i64 ((↑(List.length a1) : Int))), (27, .int .i64 (v9))], [(0, .box 25 [.sl (a0) 43 (a1), .sl (a2) 44 (a3)]), (1, .box 25 [.sl (a4) 43 (a5), .sl (a6) 44 (a7)])], 2, [], []⟩) (sx (fun v10 => (.ret, ⟨[(2, .ptr 0 0), (3, .ptr 1 0), (4, .kb false)], [(0, .box 25 [.sl (a0) 43 (a1), .sl (a2) 44 (a3)]), (1, .box 25 [.sl (a4) 43 (a5), .sl (a6) 44 (a7)])], 2, [], []⟩)) (fun v11 => (.exit 0, ⟨[(2, .ptr 0 0), (3, .ptr 1 0), (4, .kb false)], [(0, .box 25 [.sl (a0) 43 (a1), .sl (a2) 44 (a3)]), (1, .box 25 [.sl (a4) 43 (a5), .sl (a6) 44 (a7)])], 2, [], []⟩))) (W.bindE h) (Weak.a ?_) (fun v9 I Q h => ?_) (fun v h => ?_)
    · conv => whnf
      exact ⟨rfl, rfl, rfl, rfl, rfl⟩
    · conv => whnf
      refine ASeq.go tab_ok mixed_ ?_
      conv => whnf
      refine XSplit.mk (fun e => ?_) (fun e => ?_)
      · replace h := XSplit.t h e
        conv => whnf
        refine ASeq.go tab_ok mixed_ ?_
        conv => whnf
        refine XDraw.q [0, 1, 2, 3, 4, 5, 6, 7, 8, 9, 10] (by decide +kernel) ?_
        conv => whnf
        refine XNeed.mk (XNeed.c h) ?_; replace h := XNeed.x h
        conv => whnf
        refine XNeed.mk (XNeed.c h) ?_; replace h := XNeed.x h
        conv => whnf
        refine XSplit.mk (fun e => ?_) (fun e => ?_)
        · replace h := XSplit.t h e
          conv => whnf
          refine ⟨_, ?_, Weak.a ?_, h⟩; exact rfl; (conv => whnf); exact ⟨rfl, rfl, rfl, rfl, rfl⟩
        · replace h := XSplit.f h e
          conv => whnf
          refine ⟨_, Weak.a ?_, h⟩; (conv => whnf); exact ⟨rfl, rfl, rfl, rfl, rfl⟩
      · replace h := XSplit.f h e
        conv => whnf
        refine ⟨_, ?_, Weak.a ?_, h⟩; exact rfl; (conv => whnf); exact ⟨rfl, rfl, rfl, rfl, rfl⟩
    · rcases v with v10 | v11
      · conv => whnf
        refine ⟨_, Weak.a ?_, ?_, h⟩; (conv => whnf); exact ⟨rfl, rfl, rfl, rfl, rfl⟩; exact rfl
      · conv => whnf
        refine ASeq.go tab_ok mixed_ ?_
        conv => whnf
        refine ALoop.ofW tab_ok mixed_ (fun v12 => ⟨[(2, .ptr 0 0), (3, .ptr 1 0), (4, .kb false), (44, .int .i64 ((↑(List.length a3) : Int))), (45, .int .i64 (v12))], [(0, .box 25 [.sl (a0) 43 (a1), .sl (a2) 44 (a3)]), (1, .box 25 [.sl (a4) 43 (a5), .sl (a6) 44 (a7)])], 2, [], []⟩) (sx (fun v13 => (.ret, ⟨[(4, .kb false)], [], 0, [], []⟩)) (fun v14 => (.exit 2, ⟨[(4, .kb false)], [], 0, [], []⟩))) (W.bindE h) (Weak.a ?_) (fun v12 I Q h => ?_) (fun v h => ?_)
        · conv => whnf
          exact ⟨rfl, rfl, rfl, rfl, rfl⟩
        · conv => whnf
          refine ASeq.go tab_ok mixed_ ?_
          conv => whnf
          refine XSplit.mk (fun e => ?_) (fun e => ?_)
          · replace h := XSplit.t h e
            conv => whnf
            refine ASeq.go tab_ok mixed_ ?_
            conv => whnf
            refine ASeq.go tab_ok mixed_ ?_
            conv => whnf
            refine XDraw.q [0, 1, 2, 3, 4, 5, 6, 7, 8, 9, 10, 11, 12] (by decide +kernel) ?_
            conv => whnf
            refine XNeed.mk (XNeed.c h) ?_; replace h := XNeed.x h
            conv => whnf
            refine XNeed.mk (XNeed.c h) ?_; replace h := XNeed.x h
            conv => whnf
            refine XSplit.mk (fun e => ?_) (fun e => ?_)
            · replace h := XSplit.t h e
              conv => whnf
              refine ⟨_, ?_, Weak.a ?_, h⟩; exact rfl; (conv => whnf); exact ⟨rfl, rfl, rfl, rfl, rfl⟩
            · replace h := XSplit.f h e
              conv => whnf
              refine XNeed.mk (XNeed.c h) ?_; replace h := XNeed.x h
              conv => whnf
              refine ALoop.ofW tab_ok mixed_ (fun v15 => ⟨[(2, .ptr 0 0), (3, .ptr 1 0), (4, .kb false), (6, .int .i64 (v12)), (44, .int .i64 ((↑(List.length a3) : Int))), (45, .int .i64 (v12)), (46, .bool (decide (v12 < (↑(List.length a3) : Int)))), (47, .int .i64 (v12)), (48, .ptr 0 1), (49, .sl (a2) 44 (a3)), (50, .int .i64 (v12)), (51, .rel 44 (a3) (v12.toNat) 0), (52, .sl (rn a3 v12.toNat 0) 46 (rr a3 v12.toNat 0)), (53, .int .i64 ((↑(List.length (rr a3 v12.toNat 0)) : Int))), (54, .ptr 1 1), (55, .sl (a6) 44 (a7)), (56, .int .i64 (v12)), (57, .rel 44 (a7) (v12.toNat) 0), (58, .sl (rn a7 v12.toNat 0) 46 (rr a7 v12.toNat 0)), (59, .int .i64 ((↑(List.length (rr a7 v12.toNat 0)) : Int))), (60, .bool ((↑(List.length (rr a3 v12.toNat 0)) : Int) != (↑(List.length (rr a7 v12.toNat 0)) : Int))), (61, .ptr 0 1), (62, .sl (a2) 44 (a3)), (63, .int .i64 (v12)), (64, .rel 44 (a3) (v12.toNat) 0), (65, .sl (rn a3 v12.toNat 0) 46 (rr a3 v12.toNat 0)), (66, .int .i64 ((↑(List.length (rr a3 v12.toNat 0)) : Int))), (67, .int .i64 (v15))], [(0, .box 25 [.sl (a0) 43 (a1), .sl (a2) 44 (a3)]), (1, .box 25 [.sl (a4) 43 (a5), .sl (a6) 44 (a7)])], 2, [], []⟩) (sx (fun v16 => (.ret, ⟨[(2, .ptr 0 0), (3, .ptr 1 0), (4, .kb false), (6, .int .i64 (v12)), (7, .int .i64 (v16.fst)), (44, .int .i64 ((↑(List.length a3) : Int))), (45, .int .i64 (v12)), (46, .bool (decide (v12 < (↑(List.length a3) : Int)))), (47, .int .i64 (v12)), (48, .ptr 0 1), (49, .sl (a2) 44 (a3)), (50, .int .i64 (v12)), (51, .rel 44 (a3) (v12.toNat) 0), (52, .sl (rn a3 v12.toNat 0) 46 (rr a3 v12.toNat 0)), (53, .int .i64 ((↑(List.length (rr a3 v12.toNat 0)) : Int))), (54, .ptr 1 1), (55, .sl (a6) 44 (a7)), (56, .int .i64 (v12)), (57, .rel 44 (a7) (v12.toNat) 0), (58, .sl (rn a7 v12.toNat 0) 46 (rr a7 v12.toNat 0)), (59, .int .i64 ((↑(List.length (rr a7 v12.toNat 0)) : Int))), (60, .bool ((↑(List.length (rr a3 v12.toNat 0)) : Int) != (↑(List.length (rr a7 v12.toNat 0)) : Int))), (61, .ptr 0 1), (62, .sl (a2) 44 (a3)), (63, .int .i64 (v12)), (64, .rel 44 (a3) (v12.toNat) 0), (65, .sl (rn a3 v12.toNat 0) 46 (rr a3 v12.toNat 0)), (66, .int .i64 ((↑(List.length (rr a3 v12.toNat 0)) : Int))), (67, .int .i64 (v16.snd.fst)), (68, .bool (v16.snd.snd.fst)), (69, .int .i64 (v16.snd.snd.snd.fst)), (70, .ptr 0 1), (71, .sl (a2) 44 (a3)), (72, .int .i64 (v12)), (73, .rel 44 (a3) (v12.toNat) 0), (74, .sl (rn a3 v12.toNat 0) 46 (rr a3 v12.toNat 0)), (75, .int .i64 (v16.snd.snd.snd.snd.fst)), (76, .rel 46 (rr a3 v12.toNat 0) (v16.snd.snd.snd.snd.snd.fst) 0), (77, .agg [.int .i64 (v16.snd.snd.snd.snd.snd.snd.fst), .int .i64 (v16.snd.snd.snd.snd.snd.snd.snd.fst), .int .i64 (v16.snd.snd.snd.snd.snd.snd.snd.snd.fst), .int .i64 (v16.snd.snd.snd.snd.snd.snd.snd.snd.snd.fst), .int .i64 (v16.snd.snd.snd.snd.snd.snd.snd.snd.snd.snd.fst), .int .i64 (v16.snd.snd.snd.snd.snd.snd.snd.snd.snd.snd.snd.fst)]), (78, .ptr 1 1), (79, .sl (a6) 44 (a7)), (80, .int .i64 (v12)), (81, .rel 44 (a7) (v12.toNat) 0), (82, .sl (rn a7 v12.toNat 0) 46 (rr a7 v12.toNat 0)), (83, .int .i64 (v16.snd.snd.snd.snd.snd.snd.snd.snd.snd.snd.snd.snd.fst)), (84, .rel 46 (rr a7 v12.toNat 0) (v16.snd.snd.snd.snd.snd.snd.snd.snd.snd.snd.snd.snd.snd.fst) 0), (85, .agg [.int .i64 (v16.snd.snd.snd.snd.snd.snd.snd.snd.snd.snd.snd.snd.snd.snd.fst), .int .i64 (v16.snd.snd.snd.snd.snd.snd.snd.snd.snd.snd.snd.snd.snd.snd.snd.fst), .int .i64 (v16.snd.snd.snd.snd.snd.snd.snd.snd.snd.snd.snd.snd.snd.snd.snd.snd.fst), .int .i64 (v16.snd.snd.snd.snd.snd.snd.snd.snd.snd.snd.snd.snd.snd.snd.snd.snd.snd.fst), .int .i64 (v16.snd.snd.snd.snd.snd.snd.snd.snd.snd.snd.snd.snd.snd.snd.snd.snd.snd.snd.fst), .int .i64 (v16.snd.snd.snd.snd.snd.snd.snd.snd.snd.snd.snd.snd.snd.snd.snd.snd.snd.snd.snd.fst)]), (86, .bool (v16.snd.snd.snd.snd.snd.snd.snd.snd.snd.snd.snd.snd.snd.snd.snd.snd.snd.snd.snd.snd))], [(0, .box 25 [.sl (a0) 43 (a1), .sl (a2) 44 (a3)]), (1, .box 25 [.sl (a4) 43 (a5), .sl (a6) 44 (a7)])], 2, [], []⟩)) (fun v17 => (.exit 4, ⟨[(2, .ptr 0 0), (3, .ptr 1 0), (4, .kb false), (6, .int .i64 (v12)), (44, .int .i64 ((↑(List.length a3) : Int))), (45, .int .i64 (v12)), (46, .bool (decide (v12 < (↑(List.length a3) : Int)))), (47, .int .i64 (v12)), (48, .ptr 0 1), (49, .sl (a2) 44 (a3)), (50, .int .i64 (v12)), (51, .rel 44 (a3) (v12.toNat) 0), (52, .sl (rn a3 v12.toNat 0) 46 (rr a3 v12.toNat 0)), (53, .int .i64 ((↑(List.length (rr a3 v12.toNat 0)) : Int))), (54, .ptr 1 1), (55, .sl (a6) 44 (a7)), (56, .int .i64 (v12)), (57, .rel 44 (a7) (v12.toNat) 0), (58, .sl (rn a7 v12.toNat 0) 46 (rr a7 v12.toNat 0)), (59, .int .i64 ((↑(List.length (rr a7 v12.toNat 0)) : Int))), (60, .bool ((↑(List.length (rr a3 v12.toNat 0)) : Int) != (↑(List.length (rr a7 v12.toNat 0)) : Int))), (61, .ptr 0 1), (62, .sl (a2) 44 (a3)), (63, .int .i64 (v12)), (64, .rel 44 (a3) (v12.toNat) 0), (65, .sl (rn a3 v12.toNat 0) 46 (rr a3 v12.toNat 0)), (66, .int .i64 ((↑(List.length (rr a3 v12.toNat 0)) : Int))), (67, .int .i64 (v17.fst)), (68, .bool (v17.snd))], [(0, .box 25 [.sl (a0) 43 (a1), .sl (a2) 44 (a3)]), (1, .box 25 [.sl (a4) 43 (a5), .sl (a6) 44 (a7)])], 2, [], []⟩))) (W.bindE h) (Weak.a ?_) (fun v15 I Q h => ?_) (fun v h => ?_)
              · conv => whnf
                exact ⟨rfl, rfl, rfl, rfl, rfl⟩
              · conv => whnf
                refine ASeq.go tab_ok mixed_ ?_
                conv => whnf
                refine XSplit.mk (fun e => ?_) (fun e => ?_)
                · replace h := XSplit.t h e
                  conv => whnf
                  refine ASeq.go tab_ok mixed_ ?_
                  conv => whnf
                  refine XDraw.q [0, 1, 2, 3, 4, 5, 6, 7, 8, 9, 10, 11, 12, 13, 14, 15, 16] (by decide +kernel) ?_
                  conv => whnf
                  refine XNeed.mk (XNeed.c h) ?_; replace h := XNeed.x h
                  conv => whnf
                  refine XNeed.mk (XNeed.c h) ?_; replace h := XNeed.x h
                  conv => whnf
                  refine XNeed.mk (XNeed.c h) ?_; replace h := XNeed.x h
                  conv => whnf
                  refine XNeed.mk (XNeed.c h) ?_; replace h := XNeed.x h
                  conv => whnf
                  refine XSplit.mk (fun e => ?_) (fun e => ?_)
                  · replace h := XSplit.t h e
                    conv => whnf
                    refine ⟨_, ?_, Weak.a ?_, h⟩; exact rfl; (conv => whnf); exact ⟨rfl, rfl, rfl, rfl, rfl⟩
                  · replace h := XSplit.f h e
                    conv => whnf
                    refine ⟨_, Weak.a ?_, h⟩; (conv => whnf); exact ⟨rfl, rfl, rfl, rfl, rfl⟩
                · replace h := XSplit.f h e
                  conv => whnf
                  refine ⟨_, ?_, Weak.a ?_, h⟩; exact rfl; (conv => whnf); exact ⟨rfl, rfl, rfl, rfl, rfl⟩
              · rcases v with v16 | v17
                · conv => whnf
                  refine ⟨_, ?_, Weak.a ?_, h⟩; exact rfl; (conv => whnf); exact ⟨rfl, rfl, rfl, rfl, rfl⟩
                · conv => whnf
                  refine ⟨_, Weak.a ?_, h⟩; (conv => whnf); exact ⟨rfl, rfl, rfl, rfl, rfl⟩
          · replace h := XSplit.f h e
            conv => whnf
            refine ⟨_, ?_, Weak.a ?_, h⟩; exact rfl; (conv => whnf); exact ⟨rfl, rfl, rfl, rfl, rfl⟩
        · rcases v with v13 | v14
          · conv => whnf
            refine ⟨_, Weak.a ?_, ?_, h⟩; (conv => whnf); exact ⟨rfl, rfl, rfl, rfl, rfl⟩; exact rfl
          · conv => whnf
            refine ⟨_, Weak.a ?_, ?_, h⟩; (conv => whnf); exact ⟨rfl, rfl, rfl, rfl, rfl⟩; exact rfl

theorem c_law16_fixed {Q : Bool → Prop} {R : AV → List AB → Prop} (h : (g_law16_fixed).run Q) (k : ∀ r, Q r → R (.bool (r)) ([])) : ACalls Try.prog tab 11 [] [] R := by
  refine ACalls.out (fun r => .bool (r)) (fun r => []) (Q := Q) (ACalls.introX (mv := mv) tab_ok mixed_ (fn := Try.f11) (by kernel_rfl) rfl (by kernel_rfl) (by kernel_rfl) (Nat.le_of_ble_eq_true rfl) ?_) (fun v => by first | exact ⟨rfl, Nat.le_of_ble_eq_true rfl⟩ | (cases v <;> exact ⟨rfl, Nat.le_of_ble_eq_true rfl⟩)) k
  conv => whnf
  refine ACalls.inn (c_seal_Encode (W.bindE h) (fun v5 h => ?_)) ⟨rfl, rfl⟩
  conv => whnf
  refine ACalls.inn (c_seal_Decode (W.bindE h) (fun v6 h => ?_)) ⟨rfl, rfl⟩
  conv => whnf
  refine ASeq.joinW tab_ok mixed_ (fun v7 => ⟨[(0, .bool (v7))], [], 0, [], []⟩) h (fun Q h => ?_) (fun v7 h => ?_)
  · conv => whnf
    refine ACalls.inn (c_law16_same (W.bindE h) (fun v8 h => ?_)) ⟨rfl, rfl⟩
    conv => whnf
    refine XSplit.mk (fun e => ?_) (fun e => ?_)
    · replace h := XSplit.t h e
      conv => whnf
      refine ACalls.inn (c_ref15_Same (W.bindE h) (fun v9 h => ?_)) ⟨rfl, rfl⟩
      conv => whnf
      refine ⟨_, Weak.a ?_, h⟩; (conv => whnf); exact ⟨rfl, rfl, rfl, rfl, rfl⟩
    · replace h := XSplit.f h e
      conv => whnf
      refine ⟨_, Weak.a ?_, h⟩; (conv => whnf); exact ⟨rfl, rfl, rfl, rfl, rfl⟩
  · conv => whnf
    refine ⟨_, Weak.a ?_, ?_, h⟩; (conv => whnf); exact ⟨rfl, rfl, rfl, rfl, rfl⟩; exact rfl

theorem c_law16_SealEncodes {a0 : Bool} {a1 : Rws} {a2 : Bool} {a3 : Rws} {Q : Bool → Prop} {R : AV → List AB → Prop} (h : (g_law16_SealEncodes a0 a1 a2 a3).run Q) (k : ∀ r, Q r → R (.bool (r)) ([])) : ACalls Try.prog tab 3 [.agg [.sl (a0) 43 (a1), .sl (a2) 44 (a3)]] [] R := by
  refine ACalls.out (fun r => .bool (r)) (fun r => []) (Q := Q) (ACalls.introX (mv := mv) tab_ok mixed_ (fn := Try.f3) (by kernel_rfl) rfl (by kernel_rfl) (by kernel_rfl) (Nat.le_of_ble_eq_true rfl) ?_) (fun v => by first | exact ⟨rfl, Nat.le_of_ble_eq_true rfl⟩ | (cases v <;> exact ⟨rfl, Nat.le_of_ble_eq_true rfl⟩)) k
  conv => whnf
  refine ACalls.inn (c_ref15_Copy (W.bindE h) (fun v7 h => ?_)) ⟨rfl, rfl⟩
  conv => whnf
  refine ACalls.inn (c_seal_Encode (W.bindE h) (fun v8 h => ?_)) ⟨rfl, rfl⟩
  conv => whnf
  refine ACalls.inn (c_ref16_Encode (W.bindE h) (fun v9 h => ?_)) ⟨rfl, rfl⟩
  conv => whnf
  refine ASeq.joinW tab_ok mixed_ (fun v10 => ⟨[(2, .bool (v10))], [], 0, [], []⟩) h (fun Q h => ?_) (fun v10 h => ?_)
  · conv => whnf
    refine ACalls.inn (c_law16_fixed (W.bindE h) (fun v11 h => ?_)) ⟨rfl, rfl⟩
    conv => whnf
    refine XSplit.mk (fun e => ?_) (fun e => ?_)
    · replace h := XSplit.t h e
      conv => whnf
      refine ACalls.inn (c_law16_same (W.bindE h) (fun v12 h => ?_)) ⟨rfl, rfl⟩
      conv => whnf
      refine XSplit.mk (fun e => ?_) (fun e => ?_)
      · replace h := XSplit.t h e
        conv => whnf
        refine ACalls.inn (c_ref15_Same (W.bindE h) (fun v13 h => ?_)) ⟨rfl, rfl⟩
        conv => whnf
        refine ⟨_, Weak.a ?_, h⟩; (conv => whnf); exact ⟨rfl, rfl, rfl, rfl, rfl⟩
      · replace h := XSplit.f h e
        conv => whnf
        refine ⟨_, Weak.a ?_, h⟩; (conv => whnf); exact ⟨rfl, rfl, rfl, rfl, rfl⟩
    · replace h := XSplit.f h e
      conv => whnf
      refine ⟨_, Weak.a ?_, h⟩; (conv => whnf); exact ⟨rfl, rfl, rfl, rfl, rfl⟩
  · conv => whnf
    refine ⟨_, Weak.a ?_, ?_, h⟩; (conv => whnf); exact ⟨rfl, rfl, rfl, rfl, rfl⟩; exact rfl
end Go.Proofs.Ytfekobhcekcniaa.V16

set_option linter.unusedVariables false
set_option maxRecDepth 100000
set_option maxHeartbeats 0
namespace Go.Proofs.Ytfekobhcekcniaa.V16
open Go.Proofs Go.Proofs.Ytfekobhcekcniaa.VX
theorem c_ref09_Front {a0 : Bool} {a1 : Rws} {a2 : ByteArray} {Q : Bool × Rws × Int → Prop} {R : AV → List AB → Prop} (h : (g_ref09_Front a0 a1 a2).run Q) (k : ∀ r, Q r → R (.tup [.sl (r.fst) 5 (r.snd.fst), .int .i64 (r.snd.snd)]) ([])) : ACalls Try.prog tab 29 [.sl (a0) 5 (a1), .str (a2)] [] R := by
  refine ACalls.out (fun r => .tup [.sl (r.fst) 5 (r.snd.fst), .int .i64 (r.snd.snd)]) (fun r => []) (Q := Q) (ACalls.introX (mv := mv) tab_ok mixed_ (fn := Try.f29) (by kernel_rfl) rfl (by kernel_rfl) (by kernel_rfl) (Nat.le_of_ble_eq_true rfl) ?_) (fun v => by first | exact ⟨rfl, Nat.le_of_ble_eq_true rfl⟩ | (cases v <;> exact ⟨rfl, Nat.le_of_ble_eq_true rfl⟩)) k
  conv => whnf
  refine ASeq.go tab_ok mixed_ ?_
  conv => whnf
  refine XSplit.mk (fun e => ?_) (fun e => ?_)
  · replace h := XSplit.t h e
    conv => whnf
    refine ⟨_, Weak.a ?_, ?_, h⟩; (conv => whnf); exact ⟨rfl, rfl, rfl, rfl, rfl⟩; exact rfl
  · replace h := XSplit.f h e
    conv => whnf
    refine ASeq.go tab_ok mixed_ ?_
    conv => whnf
    refine ALoop.unroll tab_ok mixed_ (kn := fun st => ALoop Try.prog tab _ _ _ _ st _) (fun _ h => h) ?_
    conv => whnf
    refine ASeq.go tab_ok mixed_ ?_
    conv => whnf
    refine XSplit.tt rfl ?_
    conv => whnf
    refine ASeq.go tab_ok mixed_ ?_
    conv => whnf
    refine XDraw.q [0, 1, 2, 3, 4, 5, 6, 7] (by decide +kernel) ?_
    conv => whnf
    refine XNeed.mk (XNeed.c h) ?_; replace h := XNeed.x h
    conv => whnf
    refine XNeed.mk (XNeed.c h) ?_; replace h := XNeed.x h
    conv => whnf
    refine XSplit.mk (fun e => ?_) (fun e => ?_)
    · replace h := XSplit.t h e
      conv => whnf
      refine ⟨_, Weak.a ?_, ?_, h⟩; (conv => whnf); exact ⟨rfl, rfl, rfl, rfl, rfl⟩; exact rfl
    · replace h := XSplit.f h e
      conv => whnf
      refine ALoop.unroll tab_ok mixed_ (kn := fun st => ALoop Try.prog tab _ _ _ _ st _) (fun _ h => h) ?_
      conv => whnf
      refine ASeq.go tab_ok mixed_ ?_
      conv => whnf
      refine XSplit.tt rfl ?_
      conv => whnf
      refine ASeq.go tab_ok mixed_ ?_
      conv => whnf
      refine XDraw.q [0, 1, 2, 3, 4, 5, 6, 7] (by decide +kernel) ?_
      conv => whnf
      refine XNeed.mk (XNeed.c h) ?_; replace h := XNeed.x h
      conv => whnf
      refine XNeed.mk (XNeed.c h) ?_; replace h := XNeed.x h
      conv => whnf
      refine XSplit.mk (fun e => ?_) (fun e => ?_)
      · replace h := XSplit.t h e
        conv => whnf
        refine ⟨_, Weak.a ?_, ?_, h⟩; (conv => whnf); exact ⟨rfl, rfl, rfl, rfl, rfl⟩; exact rfl
      · replace h := XSplit.f h e
        conv => whnf
        refine ALoop.unroll tab_ok mixed_ (kn := fun st => ALoop Try.prog tab _ _ _ _ st _) (fun _ h => h) ?_
        conv => whnf
        refine ASeq.go tab_ok mixed_ ?_
        conv => whnf
        refine XSplit.tt rfl ?_
        conv => whnf
        refine ASeq.go tab_ok mixed_ ?_
        conv => whnf
        refine XDraw.q [0, 1, 2, 3, 4, 5, 6, 7] (by decide +kernel) ?_
        conv => whnf
        refine XNeed.mk (XNeed.c h) ?_; replace h := XNeed.x h
        conv => whnf
        refine XNeed.mk (XNeed.c h) ?_; replace h := XNeed.x h
        conv => whnf
        refine XSplit.mk (fun e => ?_) (fun e => ?_)
        · replace h := XSplit.t h e
          conv => whnf
          refine ⟨_, Weak.a ?_, ?_, h⟩; (conv => whnf); exact ⟨rfl, rfl, rfl, rfl, rfl⟩; exact rfl
        · replace h := XSplit.f h e
          conv => whnf
          refine ALoop.unroll tab_ok mixed_ (kn := fun st => ALoop Try.prog tab _ _ _ _ st _) (fun _ h => h) ?_
          conv => whnf
          refine ASeq.go tab_ok mixed_ ?_
          conv => whnf
          refine XSplit.tt rfl ?_
          conv => whnf
          refine ASeq.go tab_ok mixed_ ?_
          conv => whnf
          refine XDraw.q [0, 1, 2, 3, 4, 5, 6, 7] (by decide +kernel) ?_
          conv => whnf
          refine XNeed.mk (XNeed.c h) ?_; replace h := XNeed.x h
          conv => whnf
          refine XNeed.mk (XNeed.c h) ?_; replace h := XNeed.x h
          conv => whnf
          refine XSplit.mk (fun e => ?_) (fun e => ?_)
          · replace h := XSplit.t h e
            conv => whnf
            refine ⟨_, Weak.a ?_, ?_, h⟩; (conv => whnf); exact ⟨rfl, rfl, rfl, rfl, rfl⟩; exact rfl
          · replace h := XSplit.f h e
            conv => whnf
            refine ALoop.unroll tab_ok mixed_ (kn := fun st => ALoop Try.prog tab _ _ _ _ st _) (fun _ h => h) ?_
            conv => whnf
            refine ASeq.go tab_ok mixed_ ?_
            conv => whnf
            refine XSplit.ff rfl ?_
            conv => whnf
            refine XNeed.mk (XNeed.c h) ?_; replace h := XNeed.x h
            conv => whnf
            refine ⟨_, Weak.a ?_, ?_, h⟩; (conv => whnf); exact ⟨rfl, rfl, rfl, rfl, rfl⟩; exact rfl

theorem c_ref04_Get {a0 : Bool} {a1 : Rws} {Q : Int × Int × Int → Prop} {R : AV → List AB → Prop} (h : (g_ref04_Get a0 a1).run Q) (k : ∀ r, Q r → R (.tup [.int .u64 (r.fst), .int .i64 (r.snd.fst), .int .i64 (r.snd.snd)]) ([])) : ACalls Try.prog tab 59 [.sl (a0) 5 (a1)] [] R := by
  refine ACalls.out (fun r => .tup [.int .u64 (r.fst), .int .i64 (r.snd.fst), .int .i64 (r.snd.snd)]) (fun r => []) (Q := Q) (ACalls.introX (mv := mv) tab_ok mixed_ (fn := Try.f59) (by kernel_rfl) rfl (by kernel_rfl) (by kernel_rfl) (Nat.le_of_ble_eq_true rfl) ?_) (fun v => by first | exact ⟨rfl, Nat.le_of_ble_eq_true rfl⟩ | (cases v <;> exact ⟨rfl, Nat.le_of_ble_eq_true rfl⟩)) k
  conv => whnf
  refine ASeq.go tab_ok mixed_ ?_
  conv => whnf
  refine ALoop.ofW tab_ok mixed_ (fun v3 => ⟨[(0, .sl (a0) 5 (a1)), (2, .int .u64 (0)), (3, .int .i64 (0)), (4, .int .i64 (0)), (5, .int .u64 (v3.fst)), (6, .int .i64 (v3.snd))], [], 0, [], []⟩) (sx (fun v4 => (.ret, ⟨[(2, .int .u64 (v4.fst)), (3, .int .i64 (v4.snd.fst)), (4, .int .i64 (v4.snd.snd))], [], 0, [], []⟩)) (fun v5 => (.exit 0, ⟨[(2, .int .u64 (0)), (3, .int .i64 (0)), (4, .int .i64 (0))], [], 0, [], []⟩))) (W.bindE h) (Weak.a ?_) (fun v3 I Q h => ?_) (fun v h => ?_)
  · conv => whnf
    exact ⟨rfl, rfl, rfl, rfl, rfl⟩
  · conv => whnf
    refine ASeq.go tab_ok mixed_ ?_
    conv => whnf
    refine XSplit.mk (fun e => ?_) (fun e => ?_)
    · replace h := XSplit.t h e
      conv => whnf
      refine ASeq.go tab_ok mixed_ ?_
      conv => whnf
      refine XNeed.mk (XNeed.c h) ?_; replace h := XNeed.x h
      conv => whnf
      refine ASeq.go tab_ok mixed_ ?_
      conv => whnf
      refine XSplit.mk (fun e => ?_) (fun e => ?_)
      · replace h := XSplit.t h e
        conv => whnf
        refine ⟨_, ?_, Weak.a ?_, h⟩; exact rfl; (conv => whnf); exact ⟨rfl, rfl, rfl, rfl, rfl⟩
      · replace h := XSplit.f h e
        conv => whnf
        refine XNeed.mk (of_decide_eq_true rfl) ?_
        conv => whnf
        refine XNeed.mk (XNeed.c h) ?_; replace h := XNeed.x h
        conv => whnf
        refine XSplit.mk (fun e => ?_) (fun e => ?_)
        · replace h := XSplit.t h e
          conv => whnf
          refine ASeq.go tab_ok mixed_ ?_
          conv => whnf
          refine XSplit.mk (fun e => ?_) (fun e => ?_)
          · replace h := XSplit.t h e
            conv => whnf
            refine ⟨_, ?_, Weak.a ?_, h⟩; exact rfl; (conv => whnf); exact ⟨rfl, rfl, rfl, rfl, rfl⟩
          · replace h := XSplit.f h e
            conv => whnf
            refine ⟨_, ?_, Weak.a ?_, h⟩; exact rfl; (conv => whnf); exact ⟨rfl, rfl, rfl, rfl, rfl⟩
        · replace h := XSplit.f h e
          conv => whnf
          refine ⟨_, Weak.a ?_, h⟩; (conv => whnf); exact ⟨rfl, rfl, rfl, rfl, rfl⟩
    · replace h := XSplit.f h e
      conv => whnf
      refine ⟨_, ?_, Weak.a ?_, h⟩; exact rfl; (conv => whnf); exact ⟨rfl, rfl, rfl, rfl, rfl⟩
  · rcases v with v4 | v5
    · conv => whnf
      refine ⟨_, Weak.a ?_, ?_, h⟩; (conv => whnf); exact ⟨rfl, rfl, rfl, rfl, rfl⟩; exact rfl
    · conv => whnf
      refine ⟨_, Weak.a ?_, ?_, h⟩; (conv => whnf); exact ⟨rfl, rfl, rfl, rfl, rfl⟩; exact rfl

theorem c___ref04_Reader__N_p {a0 : Int} {a1 : Bool} {a2 : Rws} {a3 : Int} {a4 : Int} {a5 : Int} {a6 : Int} {a7 : Int} {a8 : Int} {Q : Int × Rws × Int → Prop} {R : AV → List AB → Prop} (h : (g___ref04_Reader__N_p a0 a1 a2 a3 a4 a5 a6 a7 a8).run Q) (k : ∀ r, Q r → R (.int .i64 (r.fst)) ([.box 72 [.sl (a1) 5 (r.snd.fst), .int .i64 (r.snd.snd), .int .i64 (a4), .int .i64 (a5), .int .i64 (a6), .int .i64 (a7), .int .i64 (a8)]])) : ACalls Try.prog tab 49 [.ptr 0 0, .int .i64 (a0)] [.box 72 [.sl (a1) 5 (a2), .int .i64 (a3), .int .i64 (a4), .int .i64 (a5), .int .i64 (a6), .int .i64 (a7), .int .i64 (a8)]] R := by
  refine ACalls.out (fun r => .int .i64 (r.fst)) (fun r => [.box 72 [.sl (a1) 5 (r.snd.fst), .int .i64 (r.snd.snd), .int .i64 (a4), .int .i64 (a5), .int .i64 (a6), .int .i64 (a7), .int .i64 (a8)]]) (Q := Q) (ACalls.introX (mv := mv) tab_ok mixed_ (fn := Try.f49) (by kernel_rfl) rfl (by kernel_rfl) (by kernel_rfl) (Nat.le_of_ble_eq_true rfl) ?_) (fun v => by first | exact ⟨rfl, Nat.le_of_ble_eq_true rfl⟩ | (cases v <;> exact ⟨rfl, Nat.le_of_ble_eq_true rfl⟩)) k
  conv => whnf
  refine ASeq.go tab_ok mixed_ ?_
  conv => whnf
  refine XSplit.mk (fun e => ?_) (fun e => ?_)
  · replace h := XSplit.t h e
    conv => whnf
    refine ⟨_, Weak.a ?_, ?_, h⟩; (conv => whnf); exact ⟨rfl, rfl, rfl, rfl, rfl⟩; exact rfl
  · replace h := XSplit.f h e
    conv => whnf
    refine ACalls.inn (c_ref04_Get (W.bindE h) (fun v2 h => ?_)) ⟨rfl, rfl⟩
    conv => whnf
    refine ASeq.joinW tab_ok mixed_ (fun v3 => ⟨[(0, .ptr 0 0), (4, .int .i64 (0)), (5, .int .u64 (v2.fst)), (6, .int .i64 (v2.snd.fst)), (7, .int .i64 (v3))], [(0, .box 72 [.sl (a1) 5 (a2), .int .i64 (a3), .int .i64 (a4), .int .i64 (a5), .int .i64 (a6), .int .i64 (a7), .int .i64 (a8)])], 1, [], []⟩) h (fun Q h => ?_) (fun v3 h => ?_)
    · conv => whnf
      refine XSplit.mk (fun e => ?_) (fun e => ?_)
      · replace h := XSplit.t h e
        conv => whnf
        refine ⟨_, Weak.a ?_, h⟩; (conv => whnf); exact ⟨rfl, rfl, rfl, rfl, rfl⟩
      · replace h := XSplit.f h e
        conv => whnf
        refine ⟨_, Weak.a ?_, h⟩; (conv => whnf); exact ⟨rfl, rfl, rfl, rfl, rfl⟩
    · conv => whnf
      refine ASeq.go tab_ok mixed_ ?_
      conv => whnf
      refine XSplit.mk (fun e => ?_) (fun e => ?_)
      · replace h := XSplit.t h e
        conv => whnf
        refine ⟨_, Weak.a ?_, ?_, h⟩; (conv => whnf); exact ⟨rfl, rfl, rfl, rfl, rfl⟩; exact rfl
      · replace h := XSplit.f h e
        conv => whnf
        refine XNeed.mk (XNeed.c h) ?_; replace h := XNeed.x h
        conv => whnf
        refine ⟨_, Weak.a ?_, ?_, h⟩; (conv => whnf); exact ⟨rfl, rfl, rfl, rfl, rfl⟩; exact rfl

theorem c___ref16_in__note_p {a0 : Int} {a1 : Bool} {a2 : Rws} {a3 : Int} {a4 : Int} {a5 : Int} {a6 : Int} {a7 : Int} {a8 : Int} {Q : Int × Int × Int → Prop} {R : AV → List AB → Prop} (h : (g___ref16_in__note_p a0 a1 a2 a3 a4 a5 a6 a7 a8).run Q) (k : ∀ r, Q r → R (.tup []) ([.box 72 [.sl (a1) 5 (a2), .int .i64 (a3), .int .i64 (a4), .int .i64 (a5), .int .i64 (r.fst), .int .i64 (r.snd.fst), .int .i64 (r.snd.snd)]])) : ACalls Try.prog tab 33 [.ptr 0 0, .int .i64 (a0)] [.box 72 [.sl (a1) 5 (a2), .int .i64 (a3), .int .i64 (a4), .int .i64 (a5), .int .i64 (a6), .int .i64 (a7), .int .i64 (a8)]] R := by
  refine ACalls.out (fun r => .tup []) (fun r => [.box 72 [.sl (a1) 5 (a2), .int .i64 (a3), .int .i64 (a4), .int .i64 (a5), .int .i64 (r.fst), .int .i64 (r.snd.fst), .int .i64 (r.snd.snd)]]) (Q := Q) (ACalls.introX (mv := mv) tab_ok mixed_ (fn := Try.f33) (by kernel_rfl) rfl (by kernel_rfl) (by kernel_rfl) (Nat.le_of_ble_eq_true rfl) ?_) (fun v => by first | exact ⟨rfl, Nat.le_of_ble_eq_true rfl⟩ | (cases v <;> exact ⟨rfl, Nat.le_of_ble_eq_true rfl⟩)) k
  conv => whnf
  refine XSplit.mk (fun e => ?_) (fun e => ?_)
  · replace h := XSplit.t h e
    conv => whnf
    refine XDraw.d [0, 1, 2, 3, 4, 5, 6, 7, 8, 9, 10, 11, 12, 13] [[], [], [], [], [], [], [], [], [], [], [], [], [], [0]] (by decide +kernel) ?_
    conv => whnf
    refine ⟨_, Weak.a ?_, ?_, h⟩; (conv => whnf); exact ⟨rfl, rfl, rfl, rfl, rfl⟩; exact rfl
  · replace h := XSplit.f h e
    conv => whnf
    refine ⟨_, Weak.a ?_, ?_, h⟩; (conv => whnf); exact ⟨rfl, rfl, rfl, rfl, rfl⟩; exact rfl

theorem c___ref16_in__n_p {a0 : Int} {a1 : Bool} {a2 : Rws} {a3 : Int} {a4 : Int} {a5 : Int} {a6 : Int} {a7 : Int} {a8 : Int} {Q : Int × Rws × Int × Int × Int × Int → Prop} {R : AV → List AB → Prop} (h : (g___ref16_in__n_p a0 a1 a2 a3 a4 a5 a6 a7 a8).run Q) (k : ∀ r, Q r → R (.int .i64 (r.fst)) ([.box 72 [.sl (a1) 5 (r.snd.fst), .int .i64 (r.snd.snd.fst), .int .i64 (a4), .int .i64 (a5), .int .i64 (r.snd.snd.snd.fst), .int .i64 (r.snd.snd.snd.snd.fst), .int .i64 (r.snd.snd.snd.snd.snd)]])) : ACalls Try.prog tab 30 [.ptr 0 0, .int .i64 (a0)] [.box 72 [.sl (a1) 5 (a2), .int .i64 (a3), .int .i64 (a4), .int .i64 (a5), .int .i64 (a6), .int .i64 (a7), .int .i64 (a8)]] R := by
  refine ACalls.out (fun r => .int .i64 (r.fst)) (fun r => [.box 72 [.sl (a1) 5 (r.snd.fst), .int .i64 (r.snd.snd.fst), .int .i64 (a4), .int .i64 (a5), .int .i64 (r.snd.snd.snd.fst), .int .i64 (r.snd.snd.snd.snd.fst), .int .i64 (r.snd.snd.snd.snd.snd)]]) (Q := Q) (ACalls.introX (mv := mv) tab_ok mixed_ (fn := Try.f30) (by kernel_rfl) rfl (by kernel_rfl) (by kernel_rfl) (Nat.le_of_ble_eq_true rfl) ?_) (fun v => by first | exact ⟨rfl, Nat.le_of_ble_eq_true rfl⟩ | (cases v <;> exact ⟨rfl, Nat.le_of_ble_eq_true rfl⟩)) k
  conv => whnf
  refine ACalls.inn (c___ref04_Reader__N_p (W.bindE h) (fun v2 h => ?_)) ⟨rfl, rfl⟩
  conv => whnf
  refine ACalls.inn (c___ref16_in__note_p (W.bindE h) (fun v3 h => ?_)) ⟨rfl, rfl⟩
  conv => whnf
  refine ⟨_, Weak.a ?_, ?_, h⟩; (conv => whnf); exact ⟨rfl, rfl, rfl, rfl, rfl⟩; exact rfl

theorem c___ref04_Reader__U_p {a0 : Bool} {a1 : Rws} {a2 : Int} {a3 : Int} {a4 : Int} {a5 : Int} {a6 : Int} {a7 : Int} {Q : Int × Rws × Int → Prop} {R : AV → List AB → Prop} (h : (g___ref04_Reader__U_p a0 a1 a2 a3 a4 a5 a6 a7).run Q) (k : ∀ r, Q r → R (.int .u64 (r.fst)) ([.box 72 [.sl (a0) 5 (r.snd.fst), .int .i64 (r.snd.snd), .int .i64 (a3), .int .i64 (a4), .int .i64 (a5), .int .i64 (a6), .int .i64 (a7)]])) : ACalls Try.prog tab 61 [.ptr 0 0] [.box 72 [.sl (a0) 5 (a1), .int .i64 (a2), .int .i64 (a3), .int .i64 (a4), .int .i64 (a5), .int .i64 (a6), .int .i64 (a7)]] R := by
  refine ACalls.out (fun r => .int .u64 (r.fst)) (fun r => [.box 72 [.sl (a0) 5 (r.snd.fst), .int .i64 (r.snd.snd), .int .i64 (a3), .int .i64 (a4), .int .i64 (a5), .int .i64 (a6), .int .i64 (a7)]]) (Q := Q) (ACalls.introX (mv := mv) tab_ok mixed_ (fn := Try.f61) (by kernel_rfl) rfl (by kernel_rfl) (by kernel_rfl) (Nat.le_of_ble_eq_true rfl) ?_) (fun v => by first | exact ⟨rfl, Nat.le_of_ble_eq_true rfl⟩ | (cases v <;> exact ⟨rfl, Nat.le_of_ble_eq_true rfl⟩)) k
  conv => whnf
  refine ASeq.go tab_ok mixed_ ?_
  conv => whnf
  refine XSplit.mk (fun e => ?_) (fun e => ?_)
  · replace h := XSplit.t h e
    conv => whnf
    refine ⟨_, Weak.a ?_, ?_, h⟩; (conv => whnf); exact ⟨rfl, rfl, rfl, rfl, rfl⟩; exact rfl
  · replace h := XSplit.f h e
    conv => whnf
    refine ACalls.inn (c_ref04_Get (W.bindE h) (fun v1 h => ?_)) ⟨rfl, rfl⟩
    conv => whnf
    refine XNeed.mk (XNeed.c h) ?_; replace h := XNeed.x h
    conv => whnf
    refine ⟨_, Weak.a ?_, ?_, h⟩; (conv => whnf); exact ⟨rfl, rfl, rfl, rfl, rfl⟩; exact rfl

theorem c_ref04_Unfold {a0 : Int} {Q : Int → Prop} {R : AV → List AB → Prop} (h : (g_ref04_Unfold a0).run Q) (k : ∀ r, Q r → R (.int .i64 (r)) ([])) : ACalls Try.prog tab 60 [.int .u64 (a0)] [] R := by
  refine ACalls.out (fun r => .int .i64 (r)) (fun r => []) (Q := Q) (ACalls.introX (mv := mv) tab_ok mixed_ (fn := Try.f60) (by kernel_rfl) rfl (by kernel_rfl) (by kernel_rfl) (Nat.le_of_ble_eq_true rfl) ?_) (fun v => by first | exact ⟨rfl, Nat.le_of_ble_eq_true rfl⟩ | (cases v <;> exact ⟨rfl, Nat.le_of_ble_eq_true rfl⟩)) k
  conv => whnf
  refine ASeq.go tab_ok mixed_ ?_
  conv => whnf
  refine XNeed.mk (of_decide_eq_true rfl) ?_
  conv => whnf
  refine XSplit.mk (fun e => ?_) (fun e => ?_)
  · replace h := XSplit.t h e
    conv => whnf
    refine XNeed.mk (of_decide_eq_true rfl) ?_
    conv => whnf
    refine ⟨_, Weak.a ?_, ?_, h⟩; (conv => whnf); exact ⟨rfl, rfl, rfl, rfl, rfl⟩; exact rfl
  · replace h := XSplit.f h e
    conv => whnf
    refine XNeed.mk (of_decide_eq_true rfl) ?_
    conv => whnf
    refine ⟨_, Weak.a ?_, ?_, h⟩; (conv => whnf); exact ⟨rfl, rfl, rfl, rfl, rfl⟩; exact rfl

theorem c___ref04_Reader__S_p {a0 : Bool} {a1 : Rws} {a2 : Int} {a3 : Int} {a4 : Int} {a5 : Int} {a6 : Int} {a7 : Int} {Q : Int × Rws × Int → Prop} {R : AV → List AB → Prop} (h : (g___ref04_Reader__S_p a0 a1 a2 a3 a4 a5 a6 a7).run Q) (k : ∀ r, Q r → R (.int .i64 (r.fst)) ([.box 72 [.sl (a0) 5 (r.snd.fst), .int .i64 (r.snd.snd), .int .i64 (a3), .int .i64 (a4), .int .i64 (a5), .int .i64 (a6), .int .i64 (a7)]])) : ACalls Try.prog tab 50 [.ptr 0 0] [.box 72 [.sl (a0) 5 (a1), .int .i64 (a2), .int .i64 (a3), .int .i64 (a4), .int .i64 (a5), .int .i64 (a6), .int .i64 (a7)]] R := by
  refine ACalls.out (fun r => .int .i64 (r.fst)) (fun r => [.box 72 [.sl (a0) 5 (r.snd.fst), .int .i64 (r.snd.snd), .int .i64 (a3), .int .i64 (a4), .int .i64 (a5), .int .i64 (a6), .int .i64 (a7)]]) (Q := Q) (ACalls.introX (mv := mv) tab_ok mixed_ (fn := Try.f50) (by kernel_rfl) rfl (by kernel_rfl) (by kernel_rfl) (Nat.le_of_ble_eq_true rfl) ?_) (fun v => by first | exact ⟨rfl, Nat.le_of_ble_eq_true rfl⟩ | (cases v <;> exact ⟨rfl, Nat.le_of_ble_eq_true rfl⟩)) k
  conv => whnf
  refine ACalls.inn (c___ref04_Reader__U_p (W.bindE h) (fun v2 h => ?_)) ⟨rfl, rfl⟩
  conv => whnf
  refine ACalls.inn (c_ref04_Unfold (W.bindE h) (fun v3 h => ?_)) ⟨rfl, rfl⟩
  conv => whnf
  refine ⟨_, Weak.a ?_, ?_, h⟩; (conv => whnf); exact ⟨rfl, rfl, rfl, rfl, rfl⟩; exact rfl

theorem c___ref16_in__span_p {a0 : Bool} {a1 : Rws} {a2 : Int} {a3 : Int} {a4 : Int} {a5 : Int} {a6 : Int} {a7 : Int} {Q : Int × Int × Rws × Int × Int × Int × Int → Prop} {R : AV → List AB → Prop} (h : (g___ref16_in__span_p a0 a1 a2 a3 a4 a5 a6 a7).run Q) (k : ∀ r, Q r → R (.agg [.int .i64 (r.fst), .int .i64 (r.snd.fst)]) ([.box 72 [.sl (a0) 5 (r.snd.snd.fst), .int .i64 (r.snd.snd.snd.fst), .int .i64 (a3), .int .i64 (a4), .int .i64 (r.snd.snd.snd.snd.fst), .int .i64 (r.snd.snd.snd.snd.snd.fst), .int .i64 (r.snd.snd.snd.snd.snd.snd)]])) : ACalls Try.prog tab 31 [.ptr 0 0] [.box 72 [.sl (a0) 5 (a1), .int .i64 (a2), .int .i64 (a3), .int .i64 (a4), .int .i64 (a5), .int .i64 (a6), .int .i64 (a7)]] R := by
  refine ACalls.out (fun r => .agg [.int .i64 (r.fst), .int .i64 (r.snd.fst)]) (fun r => [.box 72 [.sl (a0) 5 (r.snd.snd.fst), .int .i64 (r.snd.snd.snd.fst), .int .i64 (a3), .int .i64 (a4), .int .i64 (r.snd.snd.snd.snd.fst), .int .i64 (r.snd.snd.snd.snd.snd.fst), .int .i64 (r.snd.snd.snd.snd.snd.snd)]]) (Q := Q) (ACalls.introX (mv := mv) tab_ok mixed_ (fn := Try.f31) (by kernel_rfl) rfl (by kernel_rfl) (by kernel_rfl) (Nat.le_of_ble_eq_true rfl) ?_) (fun v => by first | exact ⟨rfl, Nat.le_of_ble_eq_true rfl⟩ | (cases v <;> exact ⟨rfl, Nat.le_of_ble_eq_true rfl⟩)) k
  conv => whnf
  refine ACalls.inn (c___ref04_Reader__S_p (W.bindE h) (fun v4 h => ?_)) ⟨rfl, rfl⟩
  conv => whnf
  refine ACalls.inn (c___ref16_in__note_p (W.bindE h) (fun v5 h => ?_)) ⟨rfl, rfl⟩
  conv => whnf
  refine ACalls.inn (c___ref04_Reader__S_p (W.bindE h) (fun v6 h => ?_)) ⟨rfl, rfl⟩
  conv => whnf
  refine ACalls.inn (c___ref16_in__note_p (W.bindE h) (fun v7 h => ?_)) ⟨rfl, rfl⟩
  conv => whnf
  refine ⟨_, Weak.a ?_, ?_, h⟩; (conv => whnf); exact ⟨rfl, rfl, rfl, rfl, rfl⟩; exact rfl

theorem c___ref16_in__u_p {a0 : Bool} {a1 : Rws} {a2 : Int} {a3 : Int} {a4 : Int} {a5 : Int} {a6 : Int} {a7 : Int} {Q : Int × Rws × Int × Int × Int × Int → Prop} {R : AV → List AB → Prop} (h : (g___ref16_in__u_p a0 a1 a2 a3 a4 a5 a6 a7).run Q) (k : ∀ r, Q r → R (.int .i64 (r.fst)) ([.box 72 [.sl (a0) 5 (r.snd.fst), .int .i64 (r.snd.snd.fst), .int .i64 (a3), .int .i64 (a4), .int .i64 (r.snd.snd.snd.fst), .int .i64 (r.snd.snd.snd.snd.fst), .int .i64 (r.snd.snd.snd.snd.snd)]])) : ACalls Try.prog tab 62 [.ptr 0 0] [.box 72 [.sl (a0) 5 (a1), .int .i64 (a2), .int .i64 (a3), .int .i64 (a4), .int .i64 (a5), .int .i64 (a6), .int .i64 (a7)]] R := by
  refine ACalls.out (fun r => .int .i64 (r.fst)) (fun r => [.box 72 [.sl (a0) 5 (r.snd.fst), .int .i64 (r.snd.snd.fst), .int .i64 (a3), .int .i64 (a4), .int .i64 (r.snd.snd.snd.fst), .int .i64 (r.snd.snd.snd.snd.fst), .int .i64 (r.snd.snd.snd.snd.snd)]]) (Q := Q) (ACalls.introX (mv := mv) tab_ok mixed_ (fn := Try.f62) (by kernel_rfl) rfl (by kernel_rfl) (by kernel_rfl) (Nat.le_of_ble_eq_true rfl) ?_) (fun v => by first | exact ⟨rfl, Nat.le_of_ble_eq_true rfl⟩ | (cases v <;> exact ⟨rfl, Nat.le_of_ble_eq_true rfl⟩)) k
  conv => whnf
  refine ACalls.inn (c___ref04_Reader__U_p (W.bindE h) (fun v3 h => ?_)) ⟨rfl, rfl⟩
  conv => whnf
  refine ACalls.inn (c___ref16_in__note_p (W.bindE h) (fun v4 h => ?_)) ⟨rfl, rfl⟩
  conv => whnf
  refine ASeq.go tab_ok mixed_ ?_
  conv => whnf
  refine XSplit.mk (fun e => ?_) (fun e => ?_)
  · replace h := XSplit.t h e
    conv => whnf
    refine ACalls.inn (c___ref16_in__note_p (W.bindE h) (fun v5 h => ?_)) ⟨rfl, rfl⟩
    conv => whnf
    refine ⟨_, Weak.a ?_, ?_, h⟩; (conv => whnf); exact ⟨rfl, rfl, rfl, rfl, rfl⟩; exact rfl
  · replace h := XSplit.f h e
    conv => whnf
    refine ⟨_, Weak.a ?_, ?_, h⟩; (conv => whnf); exact ⟨rfl, rfl, rfl, rfl, rfl⟩; exact rfl

theorem c___ref16_in__plan_p {a0 : Bool} {a1 : Rws} {a2 : Int} {a3 : Int} {a4 : Int} {a5 : Int} {a6 : Int} {a7 : Int} {Q : Int × Int × Int × Int × Int × Int × Rws × Int × Int × Int × Int → Prop} {R : AV → List AB → Prop} (h : (g___ref16_in__plan_p a0 a1 a2 a3 a4 a5 a6 a7).run Q) (k : ∀ r, Q r → R (.agg [.int .i64 (r.fst), .int .i64 (r.snd.fst), .int .i64 (r.snd.snd.fst), .int .i64 (r.snd.snd.snd.fst), .int .i64 (r.snd.snd.snd.snd.fst), .int .i64 (r.snd.snd.snd.snd.snd.fst)]) ([.box 72 [.sl (a0) 5 (r.snd.snd.snd.snd.snd.snd.fst), .int .i64 (r.snd.snd.snd.snd.snd.snd.snd.fst), .int .i64 (a3), .int .i64 (a4), .int .i64 (r.snd.snd.snd.snd.snd.snd.snd.snd.fst), .int .i64 (r.snd.snd.snd.snd.snd.snd.snd.snd.snd.fst), .int .i64 (r.snd.snd.snd.snd.snd.snd.snd.snd.snd.snd)]])) : ACalls Try.prog tab 51 [.ptr 0 0] [.box 72 [.sl (a0) 5 (a1), .int .i64 (a2), .int .i64 (a3), .int .i64 (a4), .int .i64 (a5), .int .i64 (a6), .int .i64 (a7)]] R := by
  refine ACalls.out (fun r => .agg [.int .i64 (r.fst), .int .i64 (r.snd.fst), .int .i64 (r.snd.snd.fst), .int .i64 (r.snd.snd.snd.fst), .int .i64 (r.snd.snd.snd.snd.fst), .int .i64 (r.snd.snd.snd.snd.snd.fst)]) (fun r => [.box 72 [.sl (a0) 5 (r.snd.snd.snd.snd.snd.snd.fst), .int .i64 (r.snd.snd.snd.snd.snd.snd.snd.fst), .int .i64 (a3), .int .i64 (a4), .int .i64 (r.snd.snd.snd.snd.snd.snd.snd.snd.fst), .int .i64 (r.snd.snd.snd.snd.snd.snd.snd.snd.snd.fst), .int .i64 (r.snd.snd.snd.snd.snd.snd.snd.snd.snd.snd)]]) (Q := Q) (ACalls.introX (mv := mv) tab_ok mixed_ (fn := Try.f51) (by kernel_rfl) rfl (by kernel_rfl) (by kernel_rfl) (Nat.le_of_ble_eq_true rfl) ?_) (fun v => by first | exact ⟨rfl, Nat.le_of_ble_eq_true rfl⟩ | (cases v <;> exact ⟨rfl, Nat.le_of_ble_eq_true rfl⟩)) k
  conv => whnf
  refine ACalls.inn (c___ref16_in__u_p (W.bindE h) (fun v4 h => ?_)) ⟨rfl, rfl⟩
  conv => whnf
  refine ACalls.inn (c___ref16_in__u_p (W.bindE h) (fun v5 h => ?_)) ⟨rfl, rfl⟩
  conv => whnf
  refine ACalls.inn (c___ref16_in__span_p (W.bindE h) (fun v6 h => ?_)) ⟨rfl, rfl⟩
  conv => whnf
  refine ACalls.inn (c___ref16_in__span_p (W.bindE h) (fun v7 h => ?_)) ⟨rfl, rfl⟩
  conv => whnf
  refine ⟨_, Weak.a ?_, ?_, h⟩; (conv => whnf); exact ⟨rfl, rfl, rfl, rfl, rfl⟩; exact rfl

theorem c___ref16_in__list_p {a0 : Bool} {a1 : Rws} {a2 : Int} {a3 : Int} {a4 : Int} {a5 : Int} {a6 : Int} {a7 : Int} {Q : Rws × Int × Int × Int × Int × Int × Bool × Rws → Prop} {R : AV → List AB → Prop} (h : (g___ref16_in__list_p a0 a1 a2 a3 a4 a5 a6 a7).run Q) (k : ∀ r, Q r → R (.own 1) ([.box 72 [.sl (a0) 5 (r.fst), .int .i64 (r.snd.fst), .int .i64 (a3), .int .i64 (r.snd.snd.fst), .int .i64 (r.snd.snd.snd.fst), .int .i64 (r.snd.snd.snd.snd.fst), .int .i64 (r.snd.snd.snd.snd.snd.fst)], .arr true 46 (r.snd.snd.snd.snd.snd.snd.fst) (r.snd.snd.snd.snd.snd.snd.snd)])) : ACalls Try.prog tab 32 [.ptr 0 0] [.box 72 [.sl (a0) 5 (a1), .int .i64 (a2), .int .i64 (a3), .int .i64 (a4), .int .i64 (a5), .int .i64 (a6), .int .i64 (a7)]] R := by
  refine ACalls.out (fun r => .own 1) (fun r => [.box 72 [.sl (a0) 5 (r.fst), .int .i64 (r.snd.fst), .int .i64 (a3), .int .i64 (r.snd.snd.fst), .int .i64 (r.snd.snd.snd.fst), .int .i64 (r.snd.snd.snd.snd.fst), .int .i64 (r.snd.snd.snd.snd.snd.fst)], .arr true 46 (r.snd.snd.snd.snd.snd.snd.fst) (r.snd.snd.snd.snd.snd.snd.snd)]) (Q := Q) (ACalls.introX (mv := mv) tab_ok mixed_ (fn := Try.f32) (by kernel_rfl) rfl (by kernel_rfl) (by kernel_rfl) (Nat.le_of_ble_eq_true rfl) ?_) (fun v => by first | exact ⟨rfl, Nat.le_of_ble_eq_true rfl⟩ | (cases v <;> exact ⟨rfl, Nat.le_of_ble_eq_true rfl⟩)) k
  conv => whnf
  refine ACalls.inn (c___ref16_in__n_p (W.bindE h) (fun v4 h => ?_)) ⟨rfl, rfl⟩
  conv => whnf
  refine ASeq.go tab_ok mixed_ ?_
  conv => whnf
  refine ALoop.ofW tab_ok mixed_ (fun v5 => ⟨[(0, .ptr 0 0), (2, .nils), (3, .own 1), (4, .int .i64 (v4.fst)), (5, .int .i64 (v5.fst))], [(0, .box 72 [.sl (a0) 5 (v5.snd.fst), .int .i64 (v5.snd.snd.fst), .int .i64 (a3), .int .i64 (v5.snd.snd.snd.fst), .int .i64 (v5.snd.snd.snd.snd.fst), .int .i64 (v5.snd.snd.snd.snd.snd.fst), .int .i64 (v5.snd.snd.snd.snd.snd.snd.fst)]), (1, .arr true 46 (v5.snd.snd.snd.snd.snd.snd.snd.fst) (v5.snd.snd.snd.snd.snd.snd.snd.snd))], 2, [], []⟩) (fun v6 => (.exit 0, ⟨[(0, .ptr 0 0), (2, .nils), (3, .own 1)], [(0, .box 72 [.sl (a0) 5 (v6.fst), .int .i64 (v6.snd.fst), .int .i64 (a3), .int .i64 (v6.snd.snd.fst), .int .i64 (v6.snd.snd.snd.fst), .int .i64 (v6.snd.snd.snd.snd.fst), .int .i64 (v6.snd.snd.snd.snd.snd.fst)]), (1, .arr true 46 (v6.snd.snd.snd.snd.snd.snd.fst) (v6.snd.snd.snd.snd.snd.snd.snd))], 2, [], []⟩)) (W.bindE h) (Weak.a ?_) (fun v5 I Q h => ?_) (fun v6 h => ?_)
  · conv => whnf
    exact ⟨rfl, rfl, rfl, rfl, rfl⟩
  · conv => whnf
    refine ASeq.go tab_ok mixed_ ?_
    conv => whnf
    refine XSplit.mk (fun e => ?_) (fun e => ?_)
    · replace h := XSplit.t h e
      conv => whnf
      refine ASeq.go tab_ok mixed_ ?_
      conv => whnf
      refine ACalls.inn (c___ref16_in__plan_p (W.bindE h) (fun v7 h => ?_)) ⟨rfl, rfl⟩
      conv => whnf
      refine XNeed.mk (XNeed.c h) ?_; replace h := XNeed.x h
      conv => whnf
      refine ⟨_, Weak.a ?_, h⟩; (conv => whnf); exact ⟨rfl, rfl, rfl, rfl, rfl⟩
    · replace h := XSplit.f h e
      conv => whnf
      refine ⟨_, ?_, Weak.a ?_, h⟩; exact rfl; (conv => whnf); exact ⟨rfl, rfl, rfl, rfl, rfl⟩
  · conv => whnf
    refine ⟨_, Weak.a ?_, ?_, h⟩; (conv => whnf); exact ⟨rfl, rfl, rfl, rfl, rfl⟩; exact rfl

theorem c___ref04_Reader__End_p {a0 : Bool} {a1 : Rws} {a2 : Int} {a3 : Int} {a4 : Int} {a5 : Int} {a6 : Int} {a7 : Int} {Q : Int → Prop} {R : AV → List AB → Prop} (h : (g___ref04_Reader__End_p a0 a1 a2 a3 a4 a5 a6 a7).run Q) (k : ∀ r, Q r → R (.int .i64 (r)) ([.box 72 [.sl (a0) 5 (a1), .int .i64 (a2), .int .i64 (a3), .int .i64 (a4), .int .i64 (a5), .int .i64 (a6), .int .i64 (a7)]])) : ACalls Try.prog tab 34 [.ptr 0 0] [.box 72 [.sl (a0) 5 (a1), .int .i64 (a2), .int .i64 (a3), .int .i64 (a4), .int .i64 (a5), .int .i64 (a6), .int .i64 (a7)]] R := by
  refine ACalls.out (fun r => .int .i64 (r)) (fun r => [.box 72 [.sl (a0) 5 (a1), .int .i64 (a2), .int .i64 (a3), .int .i64 (a4), .int .i64 (a5), .int .i64 (a6), .int .i64 (a7)]]) (Q := Q) (ACalls.introX (mv := mv) tab_ok mixed_ (fn := Try.f34) (by kernel_rfl) rfl (by kernel_rfl) (by kernel_rfl) (Nat.le_of_ble_eq_true rfl) ?_) (fun v => by first | exact ⟨rfl, Nat.le_of_ble_eq_true rfl⟩ | (cases v <;> exact ⟨rfl, Nat.le_of_ble_eq_true rfl⟩)) k
  conv => whnf
  refine ASeq.go tab_ok mixed_ ?_
  conv => whnf
  refine XSplit.mk (fun e => ?_) (fun e => ?_)
  · replace h := XSplit.t h e
    conv => whnf
    refine ⟨_, Weak.a ?_, ?_, h⟩; (conv => whnf); exact ⟨rfl, rfl, rfl, rfl, rfl⟩; exact rfl
  · replace h := XSplit.f h e
    conv => whnf
    refine ⟨_, Weak.a ?_, ?_, h⟩; (conv => whnf); exact ⟨rfl, rfl, rfl, rfl, rfl⟩; exact rfl

theorem c_ref16_Decode {a0 : Bool} {a1 : Rws} {Q : Int × Int × Int × Bool × Rws × Bool × Rws → Prop} {R : AV → List AB → Prop} (h : (g_ref16_Decode a0 a1).run Q) (k : ∀ r, Q r → R (.tup [.agg [.own 0, .own 1], .agg [.int .i64 (r.fst), .int .i64 (r.snd.fst), .int .i64 (r.snd.snd.fst)]]) ([.arr true 43 (r.snd.snd.snd.fst) (r.snd.snd.snd.snd.fst), .arr true 44 (r.snd.snd.snd.snd.snd.fst) (r.snd.snd.snd.snd.snd.snd)])) : ACalls Try.prog tab 15 [.sl (a0) 5 (a1)] [] R := by
  refine ACalls.out (fun r => .tup [.agg [.own 0, .own 1], .agg [.int .i64 (r.fst), .int .i64 (r.snd.fst), .int .i64 (r.snd.snd.fst)]]) (fun r => [.arr true 43 (r.snd.snd.snd.fst) (r.snd.snd.snd.snd.fst), .arr true 44 (r.snd.snd.snd.snd.snd.fst) (r.snd.snd.snd.snd.snd.snd)]) (Q := Q) (ACalls.introX (mv := mv) tab_ok mixed_ (fn := Try.f15) (by kernel_rfl) rfl (by kernel_rfl) (by kernel_rfl) (Nat.le_of_ble_eq_true rfl) ?_) (fun v => by first | exact ⟨rfl, Nat.le_of_ble_eq_true rfl⟩ | (cases v <;> exact ⟨rfl, Nat.le_of_ble_eq_true rfl⟩)) k
  conv => whnf
  refine ACalls.inn (c_ref09_Front (W.bindE h) (fun v11 h => ?_)) ⟨rfl, rfl⟩
  conv => whnf
  refine ASeq.go tab_ok mixed_ ?_
  conv => whnf
  refine XSplit.mk (fun e => ?_) (fun e => ?_)
  · replace h := XSplit.t h e
    conv => whnf
    refine ⟨_, Weak.a ?_, ?_, h⟩; (conv => whnf); exact ⟨rfl, rfl, rfl, rfl, rfl⟩; exact rfl
  · replace h := XSplit.f h e
    conv => whnf
    refine ACalls.inn (c___ref16_in__n_p (W.bindE h) (fun v12 h => ?_)) ⟨rfl, rfl⟩
    conv => whnf
    refine ASeq.go tab_ok mixed_ ?_
    conv => whnf
    refine ALoop.ofW tab_ok mixed_ (fun v13 => ⟨[(2, .ptr 0 0), (3, .ptr 1 0), (6, .ptr 2 0), (7, .ptr 3 0), (8, .int .i64 (v12.fst)), (9, .int .i64 (v13.fst))], [(0, .box 25 [.nils, .nils]), (1, .box 30 [.int .i64 (0), .int .i64 (0), .int .i64 (0)]), (2, .box 72 [.sl (v11.fst) 5 (v13.snd.fst), .int .i64 (v13.snd.snd.fst), .int .i64 (0), .int .i64 (0), .int .i64 (v13.snd.snd.snd.fst), .int .i64 (v13.snd.snd.snd.snd.fst), .int .i64 (v13.snd.snd.snd.snd.snd.fst)]), (3, .box 25 [.own 4, .nils]), (4, .arr true 43 (v13.snd.snd.snd.snd.snd.snd.fst) (v13.snd.snd.snd.snd.snd.snd.snd))], 5, [], []⟩) (fun v14 => (.exit 0, ⟨[(2, .ptr 0 0), (3, .ptr 1 0), (6, .ptr 2 0), (7, .ptr 3 0), (8, .int .i64 (v12.fst))], [(0, .box 25 [.nils, .nils]), (1, .box 30 [.int .i64 (0), .int .i64 (0), .int .i64 (0)]), (2, .box 72 [.sl (v11.fst) 5 (v14.fst), .int .i64 (v14.snd.fst), .int .i64 (0), .int .i64 (0), .int .i64 (v14.snd.snd.fst), .int .i64 (v14.snd.snd.snd.fst), .int .i64 (v14.snd.snd.snd.snd.fst)]), (3, .box 25 [.own 4, .nils]), (4, .arr true 43 (v14.snd.snd.snd.snd.snd.fst) (v14.snd.snd.snd.snd.snd.snd))], 5, [], []⟩)) (W.bindE h) (Weak.a ?_) (fun v13 I Q h => ?_) (fun v14 h => ?_)
    · conv => whnf
      exact ⟨rfl, rfl, rfl, rfl, rfl⟩
    · conv => whnf
      refine ASeq.go tab_ok mixed_ ?_
      conv => whnf
      refine XSplit.mk (fun e => ?_) (fun e => ?_)
      · replace h := XSplit.t h e
        conv => whnf
        refine ASeq.go tab_ok mixed_ ?_
        conv => whnf
        refine XDraw.d [0, 1, 2, 3, 4, 5, 6, 7] [[], [], [], [2], [], [4], [], [3]] (by decide +kernel) ?_
        conv => whnf
        refine ACalls.inn (c___ref16_in__span_p (W.bindE h) (fun v15 h => ?_)) ⟨rfl, rfl⟩
        conv => whnf
        refine XNeed.mk (XNeed.c h) ?_; replace h := XNeed.x h
        conv => whnf
        refine ⟨_, Weak.a ?_, h⟩; (conv => whnf); exact ⟨rfl, rfl, rfl, rfl, rfl⟩
      · replace h := XSplit.f h e
        conv => whnf
        refine ⟨_, ?_, Weak.a ?_, h⟩; exact rfl; (conv => whnf); exact ⟨rfl, rfl, rfl, rfl, rfl⟩
    · conv => whnf
      refine ACalls.inn (c___ref16_in__n_p (W.bindE h) (fun v16 h => ?_)) ⟨rfl, rfl⟩
      conv => whnf
      refine ASeq.go tab_ok mixed_ ?_
      conv => whnf
      refine ALoop.ofW tab_ok mixed_ (fun v17 => ⟨[(2, .ptr 0 0), (3, .ptr 1 0), (6, .ptr 2 0), (7, .ptr 3 0), (8, .int .i64 (v16.fst)), (10, .int .i64 (v17.fst))], [(0, .box 25 [.nils, .nils]), (1, .box 30 [.int .i64 (0), .int .i64 (0), .int .i64 (0)]), (2, .box 72 [.sl (v11.fst) 5 (v17.snd.fst), .int .i64 (v17.snd.snd.fst), .int .i64 (v17.snd.snd.snd.fst), .int .i64 (v17.snd.snd.snd.snd.fst), .int .i64 (v17.snd.snd.snd.snd.snd.fst), .int .i64 (v17.snd.snd.snd.snd.snd.snd.fst), .int .i64 (v17.snd.snd.snd.snd.snd.snd.snd.fst)]), (3, .box 25 [.own 4, .own 5]), (4, .arr true 43 (v14.snd.snd.snd.snd.snd.fst) (v14.snd.snd.snd.snd.snd.snd)), (5, .arr true 44 (v17.snd.snd.snd.snd.snd.snd.snd.snd.fst) (v17.snd.snd.snd.snd.snd.snd.snd.snd.snd))], 6, [], []⟩) (fun v18 => (.exit 2, ⟨[(2, .ptr 0 0), (3, .ptr 1 0), (6, .ptr 2 0), (7, .ptr 3 0)], [(0, .box 25 [.nils, .nils]), (1, .box 30 [.int .i64 (0), .int .i64 (0), .int .i64 (0)]), (2, .box 72 [.sl (v11.fst) 5 (v18.fst), .int .i64 (v18.snd.fst), .int .i64 (v18.snd.snd.fst), .int .i64 (v18.snd.snd.snd.fst), .int .i64 (v18.snd.snd.snd.snd.fst), .int .i64 (v18.snd.snd.snd.snd.snd.fst), .int .i64 (v18.snd.snd.snd.snd.snd.snd.fst)]), (3, .box 25 [.own 4, .own 5]), (4, .arr true 43 (v14.snd.snd.snd.snd.snd.fst) (v14.snd.snd.snd.snd.snd.snd)), (5, .arr true 44 (v18.snd.snd.snd.snd.snd.snd.snd.fst) (v18.snd.snd.snd.snd.snd.snd.snd.snd))], 6, [], []⟩)) (W.bindE h) (Weak.a ?_) (fun v17 I Q h => ?_) (fun v18 h => ?_)
      · conv => whnf
        exact ⟨rfl, rfl, rfl, rfl, rfl⟩
      · conv => whnf
        refine ASeq.go tab_ok mixed_ ?_
        conv => whnf
        refine XSplit.mk (fun e => ?_) (fun e => ?_)
        · replace h := XSplit.t h e
          conv => whnf
          refine ASeq.go tab_ok mixed_ ?_
          conv => whnf
          refine XDraw.d [0, 1, 2, 3, 4, 5, 6, 7] [[], [], [], [2], [], [5], [], [3]] (by decide +kernel) ?_
          conv => whnf
          refine ACalls.inn (c___ref16_in__list_p (W.bindE h) (fun v19 h => ?_)) ⟨rfl, rfl⟩
          conv => whnf
          refine XNeed.mk (XNeed.c h) ?_; replace h := XNeed.x h
          conv => whnf
          refine ⟨_, Weak.a ?_, h⟩; (conv => whnf); exact ⟨rfl, rfl, rfl, rfl, rfl⟩
        · replace h := XSplit.f h e
          conv => whnf
          refine ⟨_, ?_, Weak.a ?_, h⟩; exact rfl; (conv => whnf); exact ⟨rfl, rfl, rfl, rfl, rfl⟩
      · conv => whnf
        refine ACalls.inn (c___ref04_Reader__End_p (W.bindE h) (fun v20 h => ?_)) ⟨rfl, rfl⟩
        conv => whnf
        refine ACalls.inn (c___ref16_in__note_p (W.bindE h) (fun v21 h => ?_)) ⟨rfl, rfl⟩
        conv => whnf
        refine ASeq.go tab_ok mixed_ ?_
        conv => whnf
        refine XSplit.mk (fun e => ?_) (fun e => ?_)
        · replace h := XSplit.t h e
          conv => whnf
          refine XDraw.d [0, 1, 2, 3, 4, 5, 6] [[], [], [], [], [], [0], [1]] (by decide +kernel) ?_
          conv => whnf
          refine ⟨_, Weak.a ?_, ?_, h⟩; (conv => whnf); exact ⟨rfl, rfl, rfl, rfl, rfl⟩; exact rfl
        · replace h := XSplit.f h e
          conv => whnf
          refine ⟨_, Weak.a ?_, ?_, h⟩; (conv => whnf); exact ⟨rfl, rfl, rfl, rfl, rfl⟩; exact rfl

theorem c_law16_SealDecodes {a0 : Bool} {a1 : Rws} {Q : Bool → Prop} {R : AV → List AB → Prop} (h : (g_law16_SealDecodes a0 a1).run Q) (k : ∀ r, Q r → R (.bool (r)) ([])) : ACalls Try.prog tab 4 [.sl (a0) 5 (a1)] [] R := by
  refine ACalls.out (fun r => .bool (r)) (fun r => []) (Q := Q) (ACalls.introX (mv := mv) tab_ok mixed_ (fn := Try.f4) (by kernel_rfl) rfl (by kernel_rfl) (by kernel_rfl) (Nat.le_of_ble_eq_true rfl) ?_) (fun v => by first | exact ⟨rfl, Nat.le_of_ble_eq_true rfl⟩ | (cases v <;> exact ⟨rfl, Nat.le_of_ble_eq_true rfl⟩)) k
  conv => whnf
  refine XNeed.mk (XNeed.c h) ?_; replace h := XNeed.x h
  conv => whnf
  refine ACalls.inn (c_seal_Decode (W.bindE h) (fun v6 h => ?_)) ⟨rfl, rfl⟩
  conv => whnf
  refine ACalls.inn (c_ref16_Decode (W.bindE h) (fun v7 h => ?_)) ⟨rfl, rfl⟩
  conv => whnf
  refine ASeq.joinW tab_ok mixed_ (fun v8 => ⟨[(2, .bool (v8))], [], 0, [], []⟩) h (fun Q h => ?_) (fun v8 h => ?_)
  · conv => whnf
    refine ACalls.inn (c_law16_fixed (W.bindE h) (fun v9 h => ?_)) ⟨rfl, rfl⟩
    conv => whnf
    refine XSplit.mk (fun e => ?_) (fun e => ?_)
    · replace h := XSplit.t h e
      conv => whnf
      refine ACalls.inn (c_ref15_Same (W.bindE h) (fun v10 h => ?_)) ⟨rfl, rfl⟩
      conv => whnf
      refine XSplit.mk (fun e => ?_) (fun e => ?_)
      · replace h := XSplit.t h e
        conv => whnf
        refine ACalls.inn (c_law16_same (W.bindE h) (fun v11 h => ?_)) ⟨rfl, rfl⟩
        conv => whnf
        refine ⟨_, Weak.a ?_, h⟩; (conv => whnf); exact ⟨rfl, rfl, rfl, rfl, rfl⟩
      · replace h := XSplit.f h e
        conv => whnf
        refine ⟨_, Weak.a ?_, h⟩; (conv => whnf); exact ⟨rfl, rfl, rfl, rfl, rfl⟩
    · replace h := XSplit.f h e
      conv => whnf
      refine ⟨_, Weak.a ?_, h⟩; (conv => whnf); exact ⟨rfl, rfl, rfl, rfl, rfl⟩
  · conv => whnf
    refine ⟨_, Weak.a ?_, ?_, h⟩; (conv => whnf); exact ⟨rfl, rfl, rfl, rfl, rfl⟩; exact rfl

theorem c_law16_SealCuts {a0 : Bool} {a1 : Rws} {a2 : Bool} {a3 : Rws} {a4 : Int} {a5 : Int} {Q : Bool → Prop} {R : AV → List AB → Prop} (h : (g_law16_SealCuts a0 a1 a2 a3 a4 a5).run Q) (k : ∀ r, Q r → R (.bool (r)) ([])) : ACalls Try.prog tab 5 [.agg [.sl (a0) 43 (a1), .sl (a2) 44 (a3)], .int .i64 (a4), .int .u8 (a5)] [] R := by
  refine ACalls.out (fun r => .bool (r)) (fun r => []) (Q := Q) (ACalls.introX (mv := mv) tab_ok mixed_ (fn := Try.f5) (by kernel_rfl) rfl (by kernel_rfl) (by kernel_rfl) (Nat.le_of_ble_eq_true rfl) ?_) (fun v => by first | exact ⟨rfl, Nat.le_of_ble_eq_true rfl⟩ | (cases v <;> exact ⟨rfl, Nat.le_of_ble_eq_true rfl⟩)) k
  conv => whnf
  refine ACalls.inn (c_seal_Encode (W.bindE h) (fun v5 h => ?_)) ⟨rfl, rfl⟩
  conv => whnf
  refine ASeq.go tab_ok mixed_ ?_
  conv => whnf
  refine ACalls.inn (c_law16_fixed (W.bindE h) (fun v6 h => ?_)) ⟨rfl, rfl⟩
  conv => whnf
  refine XSplit.mk (fun e => ?_) (fun e => ?_)
  · replace h := XSplit.t h e
    conv => whnf
    refine ACalls.inn (c_law16_fixed (W.bindE h) (fun v7 h => ?_)) ⟨rfl, rfl⟩
    conv => whnf
    refine ⟨_, Weak.a ?_, ?_, h⟩; (conv => whnf); exact ⟨rfl, rfl, rfl, rfl, rfl⟩; exact rfl
  · replace h := XSplit.f h e
    conv => whnf
    refine XNeed.mk (XNeed.c h) ?_; replace h := XNeed.x h
    conv => whnf
    refine XNeed.mk (XNeed.c h) ?_; replace h := XNeed.x h
    conv => whnf
    refine ACalls.inn (c_seal_Decode (W.bindE h) (fun v8 h => ?_)) ⟨rfl, rfl⟩
    conv => whnf
    refine XNeed.mk (XNeed.c h) ?_; replace h := XNeed.x h
    conv => whnf
    refine XNeed.mk (XNeed.c h) ?_; replace h := XNeed.x h
    conv => whnf
    refine ACalls.inn (c_seal_Decode (W.bindE h) (fun v9 h => ?_)) ⟨rfl, rfl⟩
    conv => whnf
    refine ⟨_, Weak.a ?_, ?_, h⟩; (conv => whnf); exact ⟨rfl, rfl, rfl, rfl, rfl⟩; exact rfl

theorem c_slices_Equal___api_Span_api_Span_ {a0 : Bool} {a1 : Rws} {a2 : Bool} {a3 : Rws} {Q : Bool → Prop} {R : AV → List AB → Prop} (h : (g_slices_Equal___api_Span_api_Span_ a0 a1 a2 a3).run Q) (k : ∀ r, Q r → R (.bool (r)) ([])) : ACalls Try.prog tab 35 [.sl (a0) 43 (a1), .sl (a2) 43 (a3)] [] R := by
  refine ACalls.out (fun r => .bool (r)) (fun r => []) (Q := Q) (ACalls.introX (mv := mv) tab_ok mixed_ (fn := Try.f35) (by kernel_rfl) rfl (by kernel_rfl) (by kernel_rfl) (Nat.le_of_ble_eq_true rfl) ?_) (fun v => by first | exact ⟨rfl, Nat.le_of_ble_eq_true rfl⟩ | (cases v <;> exact ⟨rfl, Nat.le_of_ble_eq_true rfl⟩)) k
  conv => whnf
  refine ASeq.go tab_ok mixed_ ?_
  conv => whnf
  refine XSplit.mk (fun e => ?_) (fun e => ?_)
  · replace h := XSplit.t h e
    conv => whnf
    refine ⟨_, Weak.a ?_, ?_, h⟩; (conv => whnf); exact ⟨rfl, rfl, rfl, rfl, rfl⟩; exact rfl
  · replace h := XSplit.f h e
    conv => whnf
    refine ASeq.go tab_ok mixed_ ?_
    conv => whnf
    refine ALoop.ofW tab_ok mixed_ (fun v3 => ⟨[(0, .sl (a0) 43 (a1)), (1, .sl (a2) 43 (a3)), (4, .kb false), (12, .int .i64 ((↑(List.length a1) : Int))), (13, .int .i64 (v3))], [], 0, [], []⟩) (sx (fun v4 => (.ret, ⟨[(4, .kb false)], [], 0, [], []⟩)) (fun v5 => (.exit 0, ⟨[(4, .kb false)], [], 0, [], []⟩))) (W.bindE h) (Weak.a ?_) (fun v3 I Q h => ?_) (fun v h => ?_)
    · conv => whnf
      exact ⟨rfl, rfl, rfl, rfl, rfl⟩
    · conv => whnf
      refine ASeq.go tab_ok mixed_ ?_
      conv => whnf
      refine XSplit.mk (fun e => ?_) (fun e => ?_)
      · replace h := XSplit.t h e
        conv => whnf
        refine ASeq.go tab_ok mixed_ ?_
        conv => whnf
        refine XDraw.q [0, 1, 2, 3, 4, 5, 6, 7, 8] (by decide +kernel) ?_
        conv => whnf
        refine XNeed.mk (XNeed.c h) ?_; replace h := XNeed.x h
        conv => whnf
        refine XNeed.mk (XNeed.c h) ?_; replace h := XNeed.x h
        conv => whnf
        refine XSplit.mk (fun e => ?_) (fun e => ?_)
        · replace h := XSplit.t h e
          conv => whnf
          refine ⟨_, ?_, Weak.a ?_, h⟩; exact rfl; (conv => whnf); exact ⟨rfl, rfl, rfl, rfl, rfl⟩
        · replace h := XSplit.f h e
          conv => whnf
          refine ⟨_, Weak.a ?_, h⟩; (conv => whnf); exact ⟨rfl, rfl, rfl, rfl, rfl⟩
      · replace h := XSplit.f h e
        conv => whnf
        refine ⟨_, ?_, Weak.a ?_, h⟩; exact rfl; (conv => whnf); exact ⟨rfl, rfl, rfl, rfl, rfl⟩
    · rcases v with v4 | v5
      · conv => whnf
        refine ⟨_, Weak.a ?_, ?_, h⟩; (conv => whnf); exact ⟨rfl, rfl, rfl, rfl, rfl⟩; exact rfl
      · conv => whnf
        refine ⟨_, Weak.a ?_, ?_, h⟩; (conv => whnf); exact ⟨rfl, rfl, rfl, rfl, rfl⟩; exact rfl

theorem c_slices_Equal___api_Chan_api_Chan_ {a0 : Bool} {a1 : Rws} {a2 : Bool} {a3 : Rws} {Q : Bool → Prop} {R : AV → List AB → Prop} (h : (g_slices_Equal___api_Chan_api_Chan_ a0 a1 a2 a3).run Q) (k : ∀ r, Q r → R (.bool (r)) ([])) : ACalls Try.prog tab 37 [.sl (a0) 46 (a1), .sl (a2) 46 (a3)] [] R := by
  refine ACalls.out (fun r => .bool (r)) (fun r => []) (Q := Q) (ACalls.introX (mv := mv) tab_ok mixed_ (fn := Try.f37) (by kernel_rfl) rfl (by kernel_rfl) (by kernel_rfl) (Nat.le_of_ble_eq_true rfl) ?_) (fun v => by first | exact ⟨rfl, Nat.le_of_ble_eq_true rfl⟩ | (cases v <;> exact ⟨rfl, Nat.le_of_ble_eq_true rfl⟩)) k
  conv => whnf
  refine ASeq.go tab_ok mixed_ ?_
  conv => whnf
  refine XSplit.mk (fun e => ?_) (fun e => ?_)
  · replace h := XSplit.t h e
    conv => whnf
    refine ⟨_, Weak.a ?_, ?_, h⟩; (conv => whnf); exact ⟨rfl, rfl, rfl, rfl, rfl⟩; exact rfl
  · replace h := XSplit.f h e
    conv => whnf
    refine ASeq.go tab_ok mixed_ ?_
    conv => whnf
    refine ALoop.ofW tab_ok mixed_ (fun v3 => ⟨[(0, .sl (a0) 46 (a1)), (1, .sl (a2) 46 (a3)), (4, .kb false), (12, .int .i64 ((↑(List.length a1) : Int))), (13, .int .i64 (v3))], [], 0, [], []⟩) (sx (fun v4 => (.ret, ⟨[(4, .kb false)], [], 0, [], []⟩)) (fun v5 => (.exit 0, ⟨[(4, .kb false)], [], 0, [], []⟩))) (W.bindE h) (Weak.a ?_) (fun v3 I Q h => ?_) (fun v h => ?_)
    · conv => whnf
      exact ⟨rfl, rfl, rfl, rfl, rfl⟩
    · conv => whnf
      refine ASeq.go tab_ok mixed_ ?_
      conv => whnf
      refine XSplit.mk (fun e => ?_) (fun e => ?_)
      · replace h := XSplit.t h e
        conv => whnf
        refine ASeq.go tab_ok mixed_ ?_
        conv => whnf
        refine XDraw.q [0, 1, 2, 3, 4, 5, 6, 7, 8] (by decide +kernel) ?_
        conv => whnf
        refine XNeed.mk (XNeed.c h) ?_; replace h := XNeed.x h
        conv => whnf
        refine XNeed.mk (XNeed.c h) ?_; replace h := XNeed.x h
        conv => whnf
        refine XSplit.mk (fun e => ?_) (fun e => ?_)
        · replace h := XSplit.t h e
          conv => whnf
          refine ⟨_, ?_, Weak.a ?_, h⟩; exact rfl; (conv => whnf); exact ⟨rfl, rfl, rfl, rfl, rfl⟩
        · replace h := XSplit.f h e
          conv => whnf
          refine ⟨_, Weak.a ?_, h⟩; (conv => whnf); exact ⟨rfl, rfl, rfl, rfl, rfl⟩
      · replace h := XSplit.f h e
        conv => whnf
        refine ⟨_, ?_, Weak.a ?_, h⟩; exact rfl; (conv => whnf); exact ⟨rfl, rfl, rfl, rfl, rfl⟩
    · rcases v with v4 | v5
      · conv => whnf
        refine ⟨_, Weak.a ?_, ?_, h⟩; (conv => whnf); exact ⟨rfl, rfl, rfl, rfl, rfl⟩; exact rfl
      · conv => whnf
        refine ⟨_, Weak.a ?_, ?_, h⟩; (conv => whnf); exact ⟨rfl, rfl, rfl, rfl, rfl⟩; exact rfl

theorem c_slices_EqualFunc_____api_Chan_____api_Chan___api_Chan___api_Chan___slices_Equal___api_Chan_api_Chan_ {a0 : Bool} {a1 : Rws} {a2 : Bool} {a3 : Rws} {Q : Bool → Prop} {R : AV → List AB → Prop} (h : (g_slices_EqualFunc_____api_Chan_____api_Chan___api_Chan___api_Chan___slices_Equal___api_Chan_api_Chan_ a0 a1 a2 a3).run Q) (k : ∀ r, Q r → R (.bool (r)) ([])) : ACalls Try.prog tab 36 [.sl (a0) 44 (a1), .sl (a2) 44 (a3), .fn 37 [] []] [] R := by
  refine ACalls.out (fun r => .bool (r)) (fun r => []) (Q := Q) (ACalls.introX (mv := mv) tab_ok mixed_ (fn := Try.f36) (by kernel_rfl) rfl (by kernel_rfl) (by kernel_rfl) (Nat.le_of_ble_eq_true rfl) ?_) (fun v => by first | exact ⟨rfl, Nat.le_of_ble_eq_true rfl⟩ | (cases v <;> exact ⟨rfl, Nat.le_of_ble_eq_true rfl⟩)) k
  conv => whnf
  refine ASeq.go tab_ok mixed_ ?_
  conv => whnf
  refine XSplit.mk (fun e => ?_) (fun e => ?_)
  · replace h := XSplit.t h e
    conv => whnf
    refine ⟨_, Weak.a ?_, ?_, h⟩; (conv => whnf); exact ⟨rfl, rfl, rfl, rfl, rfl⟩; exact rfl
  · replace h := XSplit.f h e
    conv => whnf
    refine ASeq.go tab_ok mixed_ ?_
    conv => whnf
    refine ALoop.ofW tab_ok mixed_ (fun v4 => ⟨[(1, .sl (a2) 44 (a3)), (2, .fn 37 [] []), (6, .kb false), (15, .sl (a0) 44 (a1)), (16, .int .i64 ((↑(List.length a1) : Int))), (17, .int .i64 (v4))], [], 0, [], []⟩) (sx (fun v5 => (.ret, ⟨[(6, .kb false)], [], 0, [], []⟩)) (fun v6 => (.exit 0, ⟨[(6, .kb false)], [], 0, [], []⟩))) (W.bindE h) (Weak.a ?_) (fun v4 I Q h => ?_) (fun v h => ?_)
    · conv => whnf
      exact ⟨rfl, rfl, rfl, rfl, rfl⟩
    · conv => whnf
      refine ASeq.go tab_ok mixed_ ?_
      conv => whnf
      refine XSplit.mk (fun e => ?_) (fun e => ?_)
      · replace h := XSplit.t h e
        conv => whnf
        refine ASeq.go tab_ok mixed_ ?_
        conv => whnf
        refine XNeed.mk (XNeed.c h) ?_; replace h := XNeed.x h
        conv => whnf
        refine XNeed.mk (XNeed.c h) ?_; replace h := XNeed.x h
        conv => whnf
        refine ACalls.inn (c_slices_Equal___api_Chan_api_Chan_ (W.bindE h) (fun v7 h => ?_)) ⟨rfl, rfl⟩
        conv => whnf
        refine XSplit.mk (fun e => ?_) (fun e => ?_)
        · replace h := XSplit.t h e
          conv => whnf
          refine ⟨_, ?_, Weak.a ?_, h⟩; exact rfl; (conv => whnf); exact ⟨rfl, rfl, rfl, rfl, rfl⟩
        · replace h := XSplit.f h e
          conv => whnf
          refine ⟨_, Weak.a ?_, h⟩; (conv => whnf); exact ⟨rfl, rfl, rfl, rfl, rfl⟩
      · replace h := XSplit.f h e
        conv => whnf
        refine ⟨_, ?_, Weak.a ?_, h⟩; exact rfl; (conv => whnf); exact ⟨rfl, rfl, rfl, rfl, rfl⟩
    · rcases v with v5 | v6
      · conv => whnf
        refine ⟨_, Weak.a ?_, ?_, h⟩; (conv => whnf); exact ⟨rfl, rfl, rfl, rfl, rfl⟩; exact rfl
      · conv => whnf
        refine ⟨_, Weak.a ?_, ?_, h⟩; (conv => whnf); exact ⟨rfl, rfl, rfl, rfl, rfl⟩; exact rfl

theorem c_cert_Same {a0 : Bool} {a1 : Rws} {a2 : Bool} {a3 : Rws} {a4 : Bool} {a5 : Rws} {a6 : Bool} {a7 : Rws} {Q : Bool → Prop} {R : AV → List AB → Prop} (h : (g_cert_Same a0 a1 a2 a3 a4 a5 a6 a7).run Q) (k : ∀ r, Q r → R (.bool (r)) ([])) : ACalls Try.prog tab 16 [.agg [.sl (a0) 43 (a1), .sl (a2) 44 (a3)], .agg [.sl (a4) 43 (a5), .sl (a6) 44 (a7)]] [] R := by
  refine ACalls.out (fun r => .bool (r)) (fun r => []) (Q := Q) (ACalls.introX (mv := mv) tab_ok mixed_ (fn := Try.f16) (by kernel_rfl) rfl (by kernel_rfl) (by kernel_rfl) (Nat.le_of_ble_eq_true rfl) ?_) (fun v => by first | exact ⟨rfl, Nat.le_of_ble_eq_true rfl⟩ | (cases v <;> exact ⟨rfl, Nat.le_of_ble_eq_true rfl⟩)) k
  conv => whnf
  refine ASeq.joinW tab_ok mixed_ (fun v3 => ⟨[(4, .bool (v3))], [], 0, [], []⟩) h (fun Q h => ?_) (fun v3 h => ?_)
  · conv => whnf
    refine ACalls.inn (c_slices_Equal___api_Span_api_Span_ (W.bindE h) (fun v4 h => ?_)) ⟨rfl, rfl⟩
    conv => whnf
    refine XSplit.mk (fun e => ?_) (fun e => ?_)
    · replace h := XSplit.t h e
      conv => whnf
      refine ACalls.inn (c_slices_EqualFunc_____api_Chan_____api_Chan___api_Chan___api_Chan___slices_Equal___api_Chan_api_Chan_ (W.bindE h) (fun v5 h => ?_)) ⟨rfl, rfl⟩
      conv => whnf
      refine ⟨_, Weak.a ?_, h⟩; (conv => whnf); exact ⟨rfl, rfl, rfl, rfl, rfl⟩
    · replace h := XSplit.f h e
      conv => whnf
      refine ⟨_, Weak.a ?_, h⟩; (conv => whnf); exact ⟨rfl, rfl, rfl, rfl, rfl⟩
  · conv => whnf
    refine ⟨_, Weak.a ?_, ?_, h⟩; (conv => whnf); exact ⟨rfl, rfl, rfl, rfl, rfl⟩; exact rfl

theorem c_law16_SealBack {a0 : Bool} {a1 : Rws} {a2 : Bool} {a3 : Rws} {a4 : Bool} {a5 : Rws} {Q : Bool → Prop} {R : AV → List AB → Prop} (h : (g_law16_SealBack a0 a1 a2 a3 a4 a5).run Q) (k : ∀ r, Q r → R (.bool (r)) ([])) : ACalls Try.prog tab 7 [.agg [.sl (a0) 43 (a1), .sl (a2) 44 (a3)], .sl (a4) 5 (a5)] [] R := by
  refine ACalls.out (fun r => .bool (r)) (fun r => []) (Q := Q) (ACalls.introX (mv := mv) tab_ok mixed_ (fn := Try.f7) (by kernel_rfl) rfl (by kernel_rfl) (by kernel_rfl) (Nat.le_of_ble_eq_true rfl) ?_) (fun v => by first | exact ⟨rfl, Nat.le_of_ble_eq_true rfl⟩ | (cases v <;> exact ⟨rfl, Nat.le_of_ble_eq_true rfl⟩)) k
  conv => whnf
  refine ASeq.go tab_ok mixed_ ?_
  conv => whnf
  refine ACalls.inn (c_law16_fixed (W.bindE h) (fun v10 h => ?_)) ⟨rfl, rfl⟩
  conv => whnf
  refine XSplit.mk (fun e => ?_) (fun e => ?_)
  · replace h := XSplit.t h e
    conv => whnf
    refine ⟨_, Weak.a ?_, ?_, h⟩; (conv => whnf); exact ⟨rfl, rfl, rfl, rfl, rfl⟩; exact rfl
  · replace h := XSplit.f h e
    conv => whnf
    refine ACalls.inn (c_seal_Encode (W.bindE h) (fun v11 h => ?_)) ⟨rfl, rfl⟩
    conv => whnf
    refine ASeq.joinE tab_ok mixed_ (fun v12 => ⟨[(1, .sl (a4) 5 (a5)), (4, .kb false)], [], 0, [], []⟩) h (fun Q h => ?_) (fun v12 h => ?_)
    · conv => whnf
      refine XSplit.mk (fun e => ?_) (fun e => ?_)
      · replace h := XSplit.t h e
        conv => whnf
        refine ACalls.inn (c_seal_Decode (W.bindE h) (fun v13 h => ?_)) ⟨rfl, rfl⟩
        conv => whnf
        refine ASeq.joinW tab_ok mixed_ (fun v14 => ⟨[(1, .sl (a4) 5 (a5)), (4, .kb false), (36, .bool (v14))], [], 0, [], []⟩) h (fun Q h => ?_) (fun v14 h => ?_)
        · conv => whnf
          refine XSplit.mk (fun e => ?_) (fun e => ?_)
          · replace h := XSplit.t h e
            conv => whnf
            refine ⟨_, Weak.a ?_, h⟩; (conv => whnf); exact ⟨rfl, rfl, rfl, rfl, rfl⟩
          · replace h := XSplit.f h e
            conv => whnf
            refine ACalls.inn (c_cert_Same (W.bindE h) (fun v15 h => ?_)) ⟨rfl, rfl⟩
            conv => whnf
            refine ⟨_, Weak.a ?_, h⟩; (conv => whnf); exact ⟨rfl, rfl, rfl, rfl, rfl⟩
        · conv => whnf
          refine XSplit.mk (fun e => ?_) (fun e => ?_)
          · replace h := XSplit.t h e
            conv => whnf
            refine ⟨_, Weak.a ?_, ?_, h⟩; (conv => whnf); exact ⟨rfl, rfl, rfl, rfl, rfl⟩; exact rfl
          · replace h := XSplit.f h e
            conv => whnf
            refine ⟨_, Weak.a ?_, h⟩; (conv => whnf); exact ⟨rfl, rfl, rfl, rfl, rfl⟩
      · replace h := XSplit.f h e
        conv => whnf
        refine XSplit.mk (fun e => ?_) (fun e => ?_)
        · replace h := XSplit.t h e
          conv => whnf
          refine ⟨_, Weak.a ?_, ?_, h⟩; (conv => whnf); exact ⟨rfl, rfl, rfl, rfl, rfl⟩; exact rfl
        · replace h := XSplit.f h e
          conv => whnf
          refine ⟨_, Weak.a ?_, h⟩; (conv => whnf); exact ⟨rfl, rfl, rfl, rfl, rfl⟩
    · conv => whnf
      refine ACalls.inn (c_seal_Decode (W.bindE h) (fun v16 h => ?_)) ⟨rfl, rfl⟩
      conv => whnf
      refine ASeq.go tab_ok mixed_ ?_
      conv => whnf
      refine XSplit.mk (fun e => ?_) (fun e => ?_)
      · replace h := XSplit.t h e
        conv => whnf
        refine ⟨_, Weak.a ?_, ?_, h⟩; (conv => whnf); exact ⟨rfl, rfl, rfl, rfl, rfl⟩; exact rfl
      · replace h := XSplit.f h e
        conv => whnf
        refine ACalls.inn (c_seal_Encode (W.bindE h) (fun v17 h => ?_)) ⟨rfl, rfl⟩
        conv => whnf
        refine ASeq.joinW tab_ok mixed_ (fun v18 => ⟨[(4, .bool (v18))], [], 0, [], []⟩) h (fun Q h => ?_) (fun v18 h => ?_)
        · conv => whnf
          refine XSplit.mk (fun e => ?_) (fun e => ?_)
          · replace h := XSplit.t h e
            conv => whnf
            refine ACalls.inn (c_law16_same (W.bindE h) (fun v19 h => ?_)) ⟨rfl, rfl⟩
            conv => whnf
            refine ⟨_, Weak.a ?_, h⟩; (conv => whnf); exact ⟨rfl, rfl, rfl, rfl, rfl⟩
          · replace h := XSplit.f h e
            conv => whnf
            refine ⟨_, Weak.a ?_, h⟩; (conv => whnf); exact ⟨rfl, rfl, rfl, rfl, rfl⟩
        · conv => whnf
          refine ⟨_, Weak.a ?_, ?_, h⟩; (conv => whnf); exact ⟨rfl, rfl, rfl, rfl, rfl⟩; exact rfl

theorem c_ref16_Decode_2 {a0 : Bool} {a1 : Rws} {Q : Int × Int × Int × Bool × Rws × Bool × Rws → Prop} {R : AV → List AB → Prop} (h : (g_ref16_Decode_2 a0 a1).run Q) (k : ∀ r, Q r → R (.tup [.agg [.own 0, .own 1], .agg [.int .i64 (r.fst), .int .i64 (r.snd.fst), .int .i64 (r.snd.snd.fst)]]) ([.arr true 43 (r.snd.snd.snd.fst) (r.snd.snd.snd.snd.fst), .arr true 44 (r.snd.snd.snd.snd.snd.fst) (r.snd.snd.snd.snd.snd.snd)])) : ACalls Try.prog tab 15 [.sl (a0) 5 (a1)] [] R := by
  refine ACalls.out (fun r => .tup [.agg [.own 0, .own 1], .agg [.int .i64 (r.fst), .int .i64 (r.snd.fst), .int .i64 (r.snd.snd.fst)]]) (fun r => [.arr true 43 (r.snd.snd.snd.fst) (r.snd.snd.snd.snd.fst), .arr true 44 (r.snd.snd.snd.snd.snd.fst) (r.snd.snd.snd.snd.snd.snd)]) (Q := Q) (ACalls.introX (mv := mv) tab_ok mixed_ (fn := Try.f15) (by kernel_rfl) rfl (by kernel_rfl) (by kernel_rfl) (Nat.le_of_ble_eq_true rfl) ?_) (fun v => by first | exact ⟨rfl, Nat.le_of_ble_eq_true rfl⟩ | (cases v <;> exact ⟨rfl, Nat.le_of_ble_eq_true rfl⟩)) k
  conv => whnf
  refine ACalls.inn (c_ref09_Front (W.bindE h) (fun v11 h => ?_)) ⟨rfl, rfl⟩
  conv => whnf
  refine ASeq.go tab_ok mixed_ ?_
  conv => whnf
  refine XSplit.mk (fun e => ?_) (fun e => ?_)
  · replace h := XSplit.t h e
    conv => whnf
    refine ⟨_, Weak.a ?_, ?_, h⟩; (conv => whnf); exact ⟨rfl, rfl, rfl, rfl, rfl⟩; exact rfl
  · replace h := XSplit.f h e
    conv => whnf
    refine ACalls.inn (c___ref16_in__n_p (W.bindE h) (fun v12 h => ?_)) ⟨rfl, rfl⟩
    conv => whnf
    refine ASeq.go tab_ok mixed_ ?_
    conv => whnf
    refine ALoop.ofW tab_ok mixed_ (fun v13 => ⟨[(2, .ptr 0 0), (3, .ptr 1 0), (6, .ptr 2 0), (7, .ptr 3 0), (8, .int .i64 (v12.fst)), (9, .int .i64 (v13.fst))], [(0, .box 25 [.nils, .nils]), (1, .box 30 [.int .i64 (0), .int .i64 (0), .int .i64 (0)]), (2, .box 72 [.sl (v11.fst) 5 (v13.snd.fst), .int .i64 (v13.snd.snd.fst), .int .i64 (0), .int .i64 (0), .int .i64 (v13.snd.snd.snd.fst), .int .i64 (v13.snd.snd.snd.snd.fst), .int .i64 (v13.snd.snd.snd.snd.snd.fst)]), (3, .box 25 [.own 4, .nils]), (4, .arr true 43 (v13.snd.snd.snd.snd.snd.snd.fst) (v13.snd.snd.snd.snd.snd.snd.snd))], 5, [], []⟩) (fun v14 => (.exit 0, ⟨[(2, .ptr 0 0), (3, .ptr 1 0), (6, .ptr 2 0), (7, .ptr 3 0), (8, .int .i64 (v12.fst))], [(0, .box 25 [.nils, .nils]), (1, .box 30 [.int .i64 (0), .int .i64 (0), .int .i64 (0)]), (2, .box 72 [.sl (v11.fst) 5 (v14.fst), .int .i64 (v14.snd.fst), .int .i64 (0), .int .i64 (0), .int .i64 (v14.snd.snd.fst), .int .i64 (v14.snd.snd.snd.fst), .int .i64 (v14.snd.snd.snd.snd.fst)]), (3, .box 25 [.own 4, .nils]), (4, .arr true 43 (v14.snd.snd.snd.snd.snd.fst) (v14.snd.snd.snd.snd.snd.snd))], 5, [], []⟩)) (W.bindE h) (Weak.a ?_) (fun v13 I Q h => ?_) (fun v14 h => ?_)
    · conv => whnf
      exact ⟨rfl, rfl, rfl, rfl, rfl⟩
    · conv => whnf
      refine ASeq.go tab_ok mixed_ ?_
      conv => whnf
      refine XSplit.mk (fun e => ?_) (fun e => ?_)
      · replace h := XSplit.t h e
        conv => whnf
        refine ASeq.go tab_ok mixed_ ?_
        conv => whnf
        refine XDraw.d [0, 1, 2, 3, 4, 5, 6, 7] [[], [], [], [2], [], [4], [], [3]] (by decide +kernel) ?_
        conv => whnf
        refine ACalls.inn (c___ref16_in__span_p (W.bindE h) (fun v15 h => ?_)) ⟨rfl, rfl⟩
        conv => whnf
        refine XNeed.mk (XNeed.c h) ?_; replace h := XNeed.x h
        conv => whnf
        refine ⟨_, Weak.a ?_, h⟩; (conv => whnf); exact ⟨rfl, rfl, rfl, rfl, rfl⟩
      · replace h := XSplit.f h e
        conv => whnf
        refine ⟨_, ?_, Weak.a ?_, h⟩; exact rfl; (conv => whnf); exact ⟨rfl, rfl, rfl, rfl, rfl⟩
    · conv => whnf
      refine ACalls.inn (c___ref16_in__n_p (W.bindE h) (fun v16 h => ?_)) ⟨rfl, rfl⟩
      conv => whnf
      refine ASeq.go tab_ok mixed_ ?_
      conv => whnf
      refine ALoop.ofW tab_ok mixed_ (fun v17 => ⟨[(2, .ptr 0 0), (3, .ptr 1 0), (6, .ptr 2 0), (7, .ptr 3 0), (8, .int .i64 (v16.fst)), (10, .int .i64 (v17.fst))], [(0, .box 25 [.nils, .nils]), (1, .box 30 [.int .i64 (0), .int .i64 (0), .int .i64 (0)]), (2, .box 72 [.sl (v11.fst) 5 (v17.snd.fst), .int .i64 (v17.snd.snd.fst), .int .i64 (v17.snd.snd.snd.fst), .int .i64 (v17.snd.snd.snd.snd.fst), .int .i64 (v17.snd.snd.snd.snd.snd.fst), .int .i64 (v17.snd.snd.snd.snd.snd.snd.fst), .int .i64 (v17.snd.snd.snd.snd.snd.snd.snd.fst)]), (3, .box 25 [.own 4, .own 5]), (4, .arr true 43 (v14.snd.snd.snd.snd.snd.fst) (v14.snd.snd.snd.snd.snd.snd)), (5, .arr true 44 (v17.snd.snd.snd.snd.snd.snd.snd.snd.fst) (v17.snd.snd.snd.snd.snd.snd.snd.snd.snd))], 6, [], []⟩) (fun v18 => (.exit 2, ⟨[(2, .ptr 0 0), (3, .ptr 1 0), (6, .ptr 2 0), (7, .ptr 3 0)], [(0, .box 25 [.nils, .nils]), (1, .box 30 [.int .i64 (0), .int .i64 (0), .int .i64 (0)]), (2, .box 72 [.sl (v11.fst) 5 (v18.fst), .int .i64 (v18.snd.fst), .int .i64 (v18.snd.snd.fst), .int .i64 (v18.snd.snd.snd.fst), .int .i64 (v18.snd.snd.snd.snd.fst), .int .i64 (v18.snd.snd.snd.snd.snd.fst), .int .i64 (v18.snd.snd.snd.snd.snd.snd.fst)]), (3, .box 25 [.own 4, .own 5]), (4, .arr true 43 (v14.snd.snd.snd.snd.snd.fst) (v14.snd.snd.snd.snd.snd.snd)), (5, .arr true 44 (v18.snd.snd.snd.snd.snd.snd.snd.fst) (v18.snd.snd.snd.snd.snd.snd.snd.snd))], 6, [], []⟩)) (W.bindE h) (Weak.a ?_) (fun v17 I Q h => ?_) (fun v18 h => ?_)
      · conv => whnf
        exact ⟨rfl, rfl, rfl, rfl, rfl⟩
      · conv => whnf
        refine ASeq.go tab_ok mixed_ ?_
        conv => whnf
        refine XSplit.mk (fun e => ?_) (fun e => ?_)
        · replace h := XSplit.t h e
          conv => whnf
          refine ASeq.go tab_ok mixed_ ?_
          conv => whnf
          refine XDraw.d [0, 1, 2, 3, 4, 5, 6, 7] [[], [], [], [2], [], [5], [], [3]] (by decide +kernel) ?_
          conv => whnf
          refine ACalls.inn (c___ref16_in__list_p (W.bindE h) (fun v19 h => ?_)) ⟨rfl, rfl⟩
          conv => whnf
          refine XNeed.mk (XNeed.c h) ?_; replace h := XNeed.x h
          conv => whnf
          refine ⟨_, Weak.a ?_, h⟩; (conv => whnf); exact ⟨rfl, rfl, rfl, rfl, rfl⟩
        · replace h := XSplit.f h e
          conv => whnf
          refine ⟨_, ?_, Weak.a ?_, h⟩; exact rfl; (conv => whnf); exact ⟨rfl, rfl, rfl, rfl, rfl⟩
      · conv => whnf
        refine ACalls.inn (c___ref04_Reader__End_p (W.bindE h) (fun v20 h => ?_)) ⟨rfl, rfl⟩
        conv => whnf
        refine ACalls.inn (c___ref16_in__note_p (W.bindE h) (fun v21 h => ?_)) ⟨rfl, rfl⟩
        conv => whnf
        refine ASeq.go tab_ok mixed_ ?_
        conv => whnf
        refine XSplit.mk (fun e => ?_) (fun e => ?_)
        · replace h := XSplit.t h e
          conv => whnf
          refine XDraw.d [0, 1, 2, 3, 4, 5, 6] [[], [], [], [], [], [0], [1]] (by decide +kernel) ?_
          conv => whnf
          refine ⟨_, Weak.a ?_, ?_, h⟩; (conv => whnf); exact ⟨rfl, rfl, rfl, rfl, rfl⟩; exact rfl
        · replace h := XSplit.f h e
          conv => whnf
          refine ⟨_, Weak.a ?_, ?_, h⟩; (conv => whnf); exact ⟨rfl, rfl, rfl, rfl, rfl⟩; exact rfl
end Go.Proofs.Ytfekobhcekcniaa.V16

set_option linter.unusedVariables false
set_option maxRecDepth 100000
set_option maxHeartbeats 0
namespace Go.Proofs.Ytfekobhcekcniaa.V16
open Go.Proofs Go.Proofs.Ytfekobhcekcniaa.VX
theorem c_cert_Same_2 {a0 : Bool} {a1 : Rws} {a2 : Bool} {a3 : Rws} {a4 : Bool} {a5 : Rws} {a6 : Bool} {a7 : Rws} {Q : Bool → Prop} {R : AV → List AB → Prop} (h : (g_cert_Same_2 a0 a1 a2 a3 a4 a5 a6 a7).run Q) (k : ∀ r, Q r → R (.bool (r)) ([])) : ACalls Try.prog tab 16 [.agg [.sl (a0) 43 (a1), .sl (a2) 44 (a3)], .agg [.sl (a4) 43 (a5), .sl (a6) 44 (a7)]] [] R := by
  refine ACalls.out (fun r => .bool (r)) (fun r => []) (Q := Q) (ACalls.introX (mv := mv) tab_ok mixed_ (fn := Try.f16) (by kernel_rfl) rfl (by kernel_rfl) (by kernel_rfl) (Nat.le_of_ble_eq_true rfl) ?_) (fun v => by first | exact ⟨rfl, Nat.le_of_ble_eq_true rfl⟩ | (cases v <;> exact ⟨rfl, Nat.le_of_ble_eq_true rfl⟩)) k
  conv => whnf
  refine ASeq.joinW tab_ok mixed_ (fun v3 => ⟨[(4, .bool (v3))], [], 0, [], []⟩) h (fun Q h => ?_) (fun v3 h => ?_)
  · conv => whnf
    refine ACalls.inn (c_slices_Equal___api_Span_api_Span_ (W.bindE h) (fun v4 h => ?_)) ⟨rfl, rfl⟩
    conv => whnf
    refine XSplit.mk (fun e => ?_) (fun e => ?_)
    · replace h := XSplit.t h e
      conv => whnf
      refine ACalls.inn (c_slices_EqualFunc_____api_Chan_____api_Chan___api_Chan___api_Chan___slices_Equal___api_Chan_api_Chan_ (W.bindE h) (fun v5 h => ?_)) ⟨rfl, rfl⟩
      conv => whnf
      refine ⟨_, Weak.a ?_, h⟩; (conv => whnf); exact ⟨rfl, rfl, rfl, rfl, rfl⟩
    · replace h := XSplit.f h e
      conv => whnf
      refine ⟨_, Weak.a ?_, h⟩; (conv => whnf); exact ⟨rfl, rfl, rfl, rfl, rfl⟩
  · conv => whnf
    refine ⟨_, Weak.a ?_, ?_, h⟩; (conv => whnf); exact ⟨rfl, rfl, rfl, rfl, rfl⟩; exact rfl
end Go.Proofs.Ytfekobhcekcniaa.V16
