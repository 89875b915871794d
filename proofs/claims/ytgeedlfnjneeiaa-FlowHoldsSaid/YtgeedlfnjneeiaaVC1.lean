/- The functions are their pure forms. -/
import Derived.Test.YtgeedlfnjneeiaaVC0
set_option linter.unusedVariables false
set_option linter.unusedSimpArgs false
set_option maxRecDepth 100000
set_option maxHeartbeats 0
namespace Go.Proofs.Ytgeedlfnjneeiaa.V14
open Go.Proofs Go.Proofs.Ytgeedlfnjneeiaa.VX
theorem c_plain_sum {a0 : Int} {a1 : Bool} {a2 : Rws} {a3 : Bool} {a4 : Rws} {a5 : Int} {Q : Int → Prop} {R : AV → List AB → Prop} (h : (g_plain_sum a0 a1 a2 a3 a4 a5).run Q) (k : ∀ r, Q r → R (.int .i64 (r)) ([])) : ACalls Try.prog tab 57 [.int .i64 (a0), .sl (a1) 148 (a2), .sl (a3) 56 (a4), .int .i64 (a5)] [] R := by
  refine ACalls.out (fun r => .int .i64 (r)) (fun r => []) (Q := Q) (ACalls.introX (mv := mv) tab_ok mixed_ (fn := Try.f57) (by kernel_rfl) rfl (by kernel_rfl) (by kernel_rfl) (leB rfl) ?_) (fun v => by first | exact ⟨rfl, leB rfl⟩ | (cases v <;> exact ⟨rfl, leB rfl⟩)) k
  conv => whnf
  refine ASeq.go tab_ok mixed_ ?_
  conv => whnf
  refine ALoop.ofW tab_ok mixed_ (fun v3 => ⟨[(0, .int .i64 (v3.fst)), (2, .sl (a3) 56 (a4)), (3, .int .i64 (a5)), (8, .int .i64 (0)), (12, .sl (a1) 148 (a2)), (13, .int .i64 ((↑(List.length a2) : Int))), (14, .int .i64 (v3.snd))], [], 0, [], []⟩) (fun v4 => (.exit 0, ⟨[(0, .int .i64 (v4)), (8, .int .i64 (0))], [], 0, [], []⟩)) (W.bindE h) (Weak.a ?_) (fun v3 J_ Q h => ?_) (fun v4 h => ?_)
  · conv => whnf
    exact ⟨rfl, rfl, rfl, rfl, rfl⟩
  · conv => whnf
    refine ASeq.go tab_ok mixed_ ?_
    conv => whnf
    refine XSplit.mk (fun e => ?_) (fun e => ?_)
    · replace h := XSplit.t h e
      conv => whnf
      refine ASeq.go tab_ok mixed_ ?_
      conv => whnf
      refine XNeed.mk (XNeed.c h) ?_; replace h := XNeed.x h
      conv => whnf
      refine ASeq.joinW tab_ok mixed_ (fun v5 => ⟨[(0, .int .i64 (v3.fst)), (2, .sl (a3) 56 (a4)), (3, .int .i64 (a5)), (8, .int .i64 (0)), (10, .ptr 0 0), (11, .int .i64 (v5)), (12, .sl (a1) 148 (a2)), (13, .int .i64 ((↑(List.length a2) : Int))), (14, .int .i64 (v3.snd)), (15, .bool (decide (v3.snd < (↑(List.length a2) : Int)))), (16, .rel 148 (a2) (v3.snd.toNat) 0), (17, .agg [.int .i64 (ri a2 v3.snd.toNat 0), .int .i64 (ri a2 v3.snd.toNat 1)]), (18, .int .i64 (a5)), (19, .ptr 0 1), (20, .int .i64 (ri a2 v3.snd.toNat 1)), (21, .bool (decide (0 ≤ ri a2 v3.snd.toNat 1)))], [(0, .box 148 [.int .i64 (ri a2 v3.snd.toNat 0), .int .i64 (ri a2 v3.snd.toNat 1)])], 1, [], []⟩) h (fun Q h => ?_) (fun v5 h => ?_)
      · conv => whnf
        refine XSplit.mk (fun e => ?_) (fun e => ?_)
        · replace h := XSplit.t h e
          conv => whnf
          refine XNeed.mk (XNeed.c h) ?_; replace h := XNeed.x h
          conv => whnf
          refine ⟨_, Weak.a ?_, h⟩; (conv => whnf); exact ⟨rfl, rfl, rfl, rfl, rfl⟩
        · replace h := XSplit.f h e
          conv => whnf
          refine ⟨_, Weak.a ?_, h⟩; (conv => whnf); exact ⟨rfl, rfl, rfl, rfl, rfl⟩
      · conv => whnf
        refine ⟨_, Weak.a ?_, h⟩; (conv => whnf); exact ⟨rfl, rfl, rfl, rfl, rfl⟩
    · replace h := XSplit.f h e
      conv => whnf
      refine ⟨_, ?_, Weak.a ?_, h⟩; exact rfl; (conv => whnf); exact ⟨rfl, rfl, rfl, rfl, rfl⟩
  · conv => whnf
    refine ⟨_, Weak.a ?_, ?_, h⟩; (conv => whnf); exact ⟨rfl, rfl, rfl, rfl, rfl⟩; exact rfl
theorem c_plain_sums {a0 : Int} {a1 : Int} {a2 : Int} {a3 : Int} {a4 : Int} {a5 : Bool} {a6 : Rws} {a7 : Int} {a8 : Int} {a9 : Bool} {a10 : Rws} {Q : Bool × Rws → Prop} {R : AV → List AB → Prop} (h : (g_plain_sums a0 a1 a2 a3 a4 a5 a6 a7 a8 a9 a10).run Q) (k : ∀ r, Q r → R (.own 0) ([.arr true 2 (r.fst) (r.snd)])) : ACalls Try.prog tab 33 [.agg [.int .i64 (a0), .int .i64 (a1), .int .i64 (a2), .int .i64 (a3), .int .i64 (a4), .sl (a5) 45 (a6), .int .i64 (a7)], .int .i64 (a8), .sl (a9) 56 (a10)] [] R := by
  refine ACalls.out (fun r => .own 0) (fun r => [.arr true 2 (r.fst) (r.snd)]) (Q := Q) (ACalls.introX (mv := mv) tab_ok mixed_ (fn := Try.f33) (by kernel_rfl) rfl (by kernel_rfl) (by kernel_rfl) (leB rfl) ?_) (fun v => by first | exact ⟨rfl, leB rfl⟩ | (cases v <;> exact ⟨rfl, leB rfl⟩)) k
  conv => whnf
  refine ACalls.inn (c_terms_Channels (W.bindE h) (fun v8 h => ?_)) ⟨rfl, rfl⟩
  conv => whnf
  refine ACalls.inn (c_terms_Positions (W.bindE h) (fun v9 h => ?_)) ⟨rfl, rfl⟩
  conv => whnf
  refine XNeed.mk (XNeed.c h) ?_; replace h := XNeed.x h
  conv => whnf
  refine ASeq.go tab_ok mixed_ ?_
  conv => whnf
  refine ALoop.ofW tab_ok mixed_ (fun v10 => ⟨[(1, .int .i64 (a8)), (2, .sl (a9) 56 (a10)), (3, .ptr 0 0), (6, .nils), (7, .int .i64 (v8.fst)), (11, .own 1), (33, .int .i64 (v9.fst)), (34, .int .i64 (v10.fst))], [(0, .box 26 [.int .i64 (a0), .int .i64 (a1), .int .i64 (a2), .int .i64 (a3), .int .i64 (a4), .sl (a5) 45 (a6), .int .i64 (a7)]), (1, .arr true 2 (false) (v10.snd))], 2, [], []⟩) (fun v11 => (.exit 0, ⟨[(6, .nils), (11, .own 0)], [(0, .arr true 2 (false) (v11))], 1, [], []⟩)) (W.bindE h) (Weak.a ?_) (fun v10 J_ Q h => ?_) (fun v11 h => ?_)
  · conv => whnf
    exact ⟨rfl, rfl, rfl, rfl, rfl⟩
  · conv => whnf
    refine ASeq.go tab_ok mixed_ ?_
    conv => whnf
    refine XSplit.mk (fun e => ?_) (fun e => ?_)
    · replace h := XSplit.t h e
      conv => whnf
      refine ASeq.go tab_ok mixed_ ?_
      conv => whnf
      refine ALoop.ofW tab_ok mixed_ (fun v12 => ⟨[(1, .int .i64 (a8)), (2, .sl (a9) 56 (a10)), (3, .ptr 0 0), (6, .nils), (7, .int .i64 (v8.fst)), (11, .own 1), (12, .int .i64 (v10.fst)), (33, .int .i64 (v9.fst)), (34, .int .i64 (v10.fst)), (35, .bool (decide (v10.fst < v9.fst))), (36, .int .i64 (v10.fst)), (37, .int .i64 (v8.fst)), (38, .int .i64 (v12.fst))], [(0, .box 26 [.int .i64 (a0), .int .i64 (a1), .int .i64 (a2), .int .i64 (a3), .int .i64 (a4), .sl (a5) 45 (a6), .int .i64 (a7)]), (1, .arr true 2 (false) (v12.snd))], 2, [], []⟩) (fun v13 => (.exit 2, ⟨[(1, .int .i64 (a8)), (2, .sl (a9) 56 (a10)), (3, .ptr 0 0), (6, .nils), (7, .int .i64 (v8.fst)), (11, .own 1), (12, .int .i64 (v10.fst)), (33, .int .i64 (v9.fst)), (34, .int .i64 (v10.fst)), (35, .bool (decide (v10.fst < v9.fst))), (36, .int .i64 (v10.fst)), (37, .int .i64 (v8.fst)), (38, .int .i64 (v13.fst)), (39, .bool (v13.snd.fst))], [(0, .box 26 [.int .i64 (a0), .int .i64 (a1), .int .i64 (a2), .int .i64 (a3), .int .i64 (a4), .sl (a5) 45 (a6), .int .i64 (a7)]), (1, .arr true 2 (false) (v13.snd.snd))], 2, [], []⟩)) (W.bindE h) (Weak.a ?_) (fun v12 J_ Q h => ?_) (fun v13 h => ?_)
      · conv => whnf
        exact ⟨rfl, rfl, rfl, rfl, rfl⟩
      · conv => whnf
        refine ASeq.go tab_ok mixed_ ?_
        conv => whnf
        refine XSplit.mk (fun e => ?_) (fun e => ?_)
        · replace h := XSplit.t h e
          conv => whnf
          refine ASeq.go tab_ok mixed_ ?_
          conv => whnf
          refine ACalls.inn (c_terms_Of (W.bindE h) (fun v14 h => ?_)) ⟨rfl, rfl⟩
          conv => whnf
          refine XNeed.mk (XNeed.c h) ?_; replace h := XNeed.x h
          conv => whnf
          refine ACalls.inn (c_plain_sum (W.bindE h) (fun v15 h => ?_)) ⟨rfl, rfl⟩
          conv => whnf
          refine XNeed.mk (XNeed.c h) ?_; replace h := XNeed.x h
          conv => whnf
          refine ⟨_, Weak.a ?_, h⟩; (conv => whnf); exact ⟨rfl, rfl, rfl, rfl, rfl⟩
        · replace h := XSplit.f h e
          conv => whnf
          refine ⟨_, ?_, Weak.a ?_, h⟩; exact rfl; (conv => whnf); exact ⟨rfl, rfl, rfl, rfl, rfl⟩
      · conv => whnf
        refine ⟨_, Weak.a ?_, h⟩; (conv => whnf); exact ⟨rfl, rfl, rfl, rfl, rfl⟩
    · replace h := XSplit.f h e
      conv => whnf
      refine ⟨_, ?_, Weak.a ?_, h⟩; exact rfl; (conv => whnf); exact ⟨rfl, rfl, rfl, rfl, rfl⟩
  · conv => whnf
    refine ⟨_, Weak.a ?_, ?_, h⟩; (conv => whnf); exact ⟨rfl, rfl, rfl, rfl, rfl⟩; exact rfl
theorem c_plain_home {a0 : Int} {a1 : Int} {a2 : Int} {a3 : Int} {a4 : Int} {a5 : Int} {a6 : Int} {a7 : Int} {a8 : Int} {a9 : Int} {a10 : Int} {a11 : Int} {a12 : Bool} {a13 : Rws} {a14 : Bool} {a15 : Rws} {a16 : Int} {a17 : Int} {a18 : Int} {a19 : Int} {a20 : Int} {a21 : Int} {a22 : Int} {a23 : Int} {a24 : Int} {Q : Int → Prop} {R : AV → List AB → Prop} (h : (g_plain_home a0 a1 a2 a3 a4 a5 a6 a7 a8 a9 a10 a11 a12 a13 a14 a15 a16 a17 a18 a19 a20 a21 a22 a23 a24).run Q) (k : ∀ r, Q r → R (.int .i8 (r)) ([])) : ACalls Try.prog tab 35 [.agg [.int .i64 (a0), .int .i64 (a1), .int .i64 (a2), .int .i64 (a3), .int .i64 (a4), .int .i64 (a5), .int .i64 (a6), .int .i64 (a7), .int .i64 (a8), .int .i64 (a9), .int .i64 (a10), .int .i64 (a11), .sl (a12) 74 (a13), .sl (a14) 21 (a15), .int .i64 (a16), .int .i64 (a17), .int .i64 (a18), .int .i64 (a19), .int .i64 (a20), .int .i64 (a21), .int .i64 (a22), .int .i64 (a23)], .int .i64 (a24)] [] R := by
  refine ACalls.out (fun r => .int .i8 (r)) (fun r => []) (Q := Q) (ACalls.introX (mv := mv) tab_ok mixed_ (fn := Try.f35) (by kernel_rfl) rfl (by kernel_rfl) (by kernel_rfl) (leB rfl) ?_) (fun v => by first | exact ⟨rfl, leB rfl⟩ | (cases v <;> exact ⟨rfl, leB rfl⟩)) k
  conv => whnf
  refine ACalls.inn (c_fixq_Finish (W.bindE h) (fun v1 h => ?_)) ⟨rfl, rfl⟩
  conv => whnf
  refine ⟨_, Weak.a ?_, ?_, h⟩; (conv => whnf); exact ⟨rfl, rfl, rfl, rfl, rfl⟩; exact rfl
theorem c_plain_reduce {a0 : Int} {a1 : Int} {a2 : Int} {a3 : Int} {a4 : Int} {a5 : Bool} {a6 : Rws} {a7 : Int} {a8 : Int} {a9 : Bool} {a10 : Rws} {Q : Bool × Rws → Prop} {R : AV → List AB → Prop} (h : (g_plain_reduce a0 a1 a2 a3 a4 a5 a6 a7 a8 a9 a10).run Q) (k : ∀ r, Q r → R (.own 0) ([.arr true 56 (r.fst) (r.snd)])) : ACalls Try.prog tab 22 [.agg [.int .i64 (a0), .int .i64 (a1), .int .i64 (a2), .int .i64 (a3), .int .i64 (a4), .sl (a5) 45 (a6), .int .i64 (a7)], .int .i64 (a8), .sl (a9) 56 (a10)] [] R := by
  refine ACalls.out (fun r => .own 0) (fun r => [.arr true 56 (r.fst) (r.snd)]) (Q := Q) (ACalls.introX (mv := mv) tab_ok mixed_ (fn := Try.f22) (by kernel_rfl) rfl (by kernel_rfl) (by kernel_rfl) (leB rfl) ?_) (fun v => by first | exact ⟨rfl, leB rfl⟩ | (cases v <;> exact ⟨rfl, leB rfl⟩)) k
  conv => whnf
  refine XNeed.mk (XNeed.c h) ?_; replace h := XNeed.x h
  conv => whnf
  refine ACalls.inn (c_terms_Length (W.bindE h) (fun v8 h => ?_)) ⟨rfl, rfl⟩
  conv => whnf
  refine ACalls.inn (c_plain_sums (W.bindE h) (fun v9 h => ?_)) ⟨rfl, rfl⟩
  conv => whnf
  refine XNeed.mk (XNeed.c h) ?_; replace h := XNeed.x h
  conv => whnf
  refine ASeq.go tab_ok mixed_ ?_
  conv => whnf
  refine ALoop.ofW tab_ok mixed_ (fun v10 => ⟨[(6, .nils), (7, .ptr 0 0), (8, .int .i64 (v8.fst)), (11, .own 1), (35, .own 2), (36, .int .i64 ((↑(List.length v9.snd) : Int))), (37, .int .i64 (v10.fst))], [(0, .box 45 [.int .i64 (ri a6 (IntKind.i64.wrap (a8 - 1)).toNat 0), .int .i64 (ri a6 (IntKind.i64.wrap (a8 - 1)).toNat 1), .int .i64 (ri a6 (IntKind.i64.wrap (a8 - 1)).toNat 2), .int .i64 (ri a6 (IntKind.i64.wrap (a8 - 1)).toNat 3), .int .i64 (ri a6 (IntKind.i64.wrap (a8 - 1)).toNat 4), .int .i64 (ri a6 (IntKind.i64.wrap (a8 - 1)).toNat 5), .int .i64 (ri a6 (IntKind.i64.wrap (a8 - 1)).toNat 6), .int .i64 (ri a6 (IntKind.i64.wrap (a8 - 1)).toNat 7), .int .i64 (ri a6 (IntKind.i64.wrap (a8 - 1)).toNat 8), .int .i64 (ri a6 (IntKind.i64.wrap (a8 - 1)).toNat 9), .int .i64 (ri a6 (IntKind.i64.wrap (a8 - 1)).toNat 10), .int .i64 (ri a6 (IntKind.i64.wrap (a8 - 1)).toNat 11), .sl (rn a6 (IntKind.i64.wrap (a8 - 1)).toNat 12) 74 (rr a6 (IntKind.i64.wrap (a8 - 1)).toNat 12), .sl (rn a6 (IntKind.i64.wrap (a8 - 1)).toNat 13) 21 (rr a6 (IntKind.i64.wrap (a8 - 1)).toNat 13), .int .i64 (ri a6 (IntKind.i64.wrap (a8 - 1)).toNat 14), .int .i64 (ri a6 (IntKind.i64.wrap (a8 - 1)).toNat 15), .int .i64 (ri a6 (IntKind.i64.wrap (a8 - 1)).toNat 16), .int .i64 (ri a6 (IntKind.i64.wrap (a8 - 1)).toNat 17), .int .i64 (ri a6 (IntKind.i64.wrap (a8 - 1)).toNat 18), .int .i64 (ri a6 (IntKind.i64.wrap (a8 - 1)).toNat 19), .int .i64 (ri a6 (IntKind.i64.wrap (a8 - 1)).toNat 20), .int .i64 (ri a6 (IntKind.i64.wrap (a8 - 1)).toNat 21)]), (1, .arr true 56 (false) (v10.snd)), (2, .arr true 2 (v9.fst) (v9.snd))], 3, [], []⟩) (fun v11 => (.exit 0, ⟨[(6, .nils), (11, .own 0)], [(0, .arr true 56 (false) (v11))], 1, [], []⟩)) (W.bindE h) (Weak.a ?_) (fun v10 J_ Q h => ?_) (fun v11 h => ?_)
  · conv => whnf
    exact ⟨rfl, rfl, rfl, rfl, rfl⟩
  · conv => whnf
    refine ASeq.go tab_ok mixed_ ?_
    conv => whnf
    refine XSplit.mk (fun e => ?_) (fun e => ?_)
    · replace h := XSplit.t h e
      conv => whnf
      refine ASeq.go tab_ok mixed_ ?_
      conv => whnf
      refine XNeed.mk (XNeed.c h) ?_; replace h := XNeed.x h
      conv => whnf
      refine ACalls.inn (c_fixq_Apply (W.bindE h) (fun v12 h => ?_)) ⟨rfl, rfl⟩
      conv => whnf
      refine ASeq.joinW tab_ok mixed_ (fun v13 => ⟨[(6, .nils), (7, .ptr 0 0), (8, .int .i64 (v8.fst)), (11, .own 1), (12, .int .i64 (v10.fst)), (13, .int .i64 (ri v9.snd v10.fst.toNat 0)), (14, .int .i64 (v13)), (35, .own 2), (36, .int .i64 ((↑(List.length v9.snd) : Int))), (37, .int .i64 (v10.fst)), (38, .bool (decide (v10.fst < (↑(List.length v9.snd) : Int)))), (39, .int .i64 (v10.fst)), (40, .elt 2 (v10.fst.toNat) 0), (41, .int .i64 (ri v9.snd v10.fst.toNat 0)), (42, .tup [.int .i64 (v12.fst), .int .i64 (v12.snd)]), (43, .int .i64 (ri v9.snd v10.fst.toNat 0)), (44, .ptr 0 14), (45, .agg [.int .i64 (ri a6 (IntKind.i64.wrap (a8 - 1)).toNat 14), .int .i64 (ri a6 (IntKind.i64.wrap (a8 - 1)).toNat 15)]), (46, .tup [.int .i64 (v12.fst), .int .i64 (v12.snd)]), (47, .int .i64 (v12.fst)), (48, .int .i64 (v12.snd)), (49, .ptr 0 0), (50, .int .i64 (ri a6 (IntKind.i64.wrap (a8 - 1)).toNat 0)), (51, .bool (ri a6 (IntKind.i64.wrap (a8 - 1)).toNat 0 == 4))], [(0, .box 45 [.int .i64 (ri a6 (IntKind.i64.wrap (a8 - 1)).toNat 0), .int .i64 (ri a6 (IntKind.i64.wrap (a8 - 1)).toNat 1), .int .i64 (ri a6 (IntKind.i64.wrap (a8 - 1)).toNat 2), .int .i64 (ri a6 (IntKind.i64.wrap (a8 - 1)).toNat 3), .int .i64 (ri a6 (IntKind.i64.wrap (a8 - 1)).toNat 4), .int .i64 (ri a6 (IntKind.i64.wrap (a8 - 1)).toNat 5), .int .i64 (ri a6 (IntKind.i64.wrap (a8 - 1)).toNat 6), .int .i64 (ri a6 (IntKind.i64.wrap (a8 - 1)).toNat 7), .int .i64 (ri a6 (IntKind.i64.wrap (a8 - 1)).toNat 8), .int .i64 (ri a6 (IntKind.i64.wrap (a8 - 1)).toNat 9), .int .i64 (ri a6 (IntKind.i64.wrap (a8 - 1)).toNat 10), .int .i64 (ri a6 (IntKind.i64.wrap (a8 - 1)).toNat 11), .sl (rn a6 (IntKind.i64.wrap (a8 - 1)).toNat 12) 74 (rr a6 (IntKind.i64.wrap (a8 - 1)).toNat 12), .sl (rn a6 (IntKind.i64.wrap (a8 - 1)).toNat 13) 21 (rr a6 (IntKind.i64.wrap (a8 - 1)).toNat 13), .int .i64 (ri a6 (IntKind.i64.wrap (a8 - 1)).toNat 14), .int .i64 (ri a6 (IntKind.i64.wrap (a8 - 1)).toNat 15), .int .i64 (ri a6 (IntKind.i64.wrap (a8 - 1)).toNat 16), .int .i64 (ri a6 (IntKind.i64.wrap (a8 - 1)).toNat 17), .int .i64 (ri a6 (IntKind.i64.wrap (a8 - 1)).toNat 18), .int .i64 (ri a6 (IntKind.i64.wrap (a8 - 1)).toNat 19), .int .i64 (ri a6 (IntKind.i64.wrap (a8 - 1)).toNat 20), .int .i64 (ri a6 (IntKind.i64.wrap (a8 - 1)).toNat 21)]), (1, .arr true 56 (false) (v10.snd)), (2, .arr true 2 (v9.fst) (v9.snd))], 3, [], []⟩) h (fun Q h => ?_) (fun v13 h => ?_)
      · conv => whnf
        refine XSplit.mk (fun e => ?_) (fun e => ?_)
        · replace h := XSplit.t h e
          conv => whnf
          refine ACalls.inn (c_fixq_Mean (W.bindE h) (fun v14 h => ?_)) ⟨rfl, rfl⟩
          conv => whnf
          refine ⟨_, Weak.a ?_, h⟩; (conv => whnf); exact ⟨rfl, rfl, rfl, rfl, rfl⟩
        · replace h := XSplit.f h e
          conv => whnf
          refine ⟨_, Weak.a ?_, h⟩; (conv => whnf); exact ⟨rfl, rfl, rfl, rfl, rfl⟩
      · conv => whnf
        refine ACalls.inn (c_plain_home (W.bindE h) (fun v15 h => ?_)) ⟨rfl, rfl⟩
        conv => whnf
        refine XNeed.mk (XNeed.c h) ?_; replace h := XNeed.x h
        conv => whnf
        refine ⟨_, Weak.a ?_, h⟩; (conv => whnf); exact ⟨rfl, rfl, rfl, rfl, rfl⟩
    · replace h := XSplit.f h e
      conv => whnf
      refine ⟨_, ?_, Weak.a ?_, h⟩; exact rfl; (conv => whnf); exact ⟨rfl, rfl, rfl, rfl, rfl⟩
  · conv => whnf
    refine ⟨_, Weak.a ?_, ?_, h⟩; (conv => whnf); exact ⟨rfl, rfl, rfl, rfl, rfl⟩; exact rfl
theorem c_window_Positions {a0 : Int} {a1 : Int} {a2 : Int} {a3 : Int} {a4 : Int} {a5 : Int} {a6 : Int} {a7 : Int} {a8 : Int} {a9 : Int} {a10 : Int} {Q : Int × Int → Prop} {R : AV → List AB → Prop} (h : (g_window_Positions a0 a1 a2 a3 a4 a5 a6 a7 a8 a9 a10).run Q) (k : ∀ r, Q r → R (.fn 61 [] [.ptr 0 0, .ptr 1 0]) ([.box 3 [.int .i64 (r.fst)], .box 3 [.int .i64 (r.snd)]])) : ACalls Try.prog tab 36 [.agg [.int .i64 (a0), .int .i64 (a1), .int .i64 (a2)], .agg [.int .i64 (a3), .int .i64 (a4), .int .i64 (a5), .int .i64 (a6), .int .i64 (a7), .int .i64 (a8), .int .i64 (a9), .int .i64 (a10)]] [] R := by
  refine ACalls.out (fun r => .fn 61 [] [.ptr 0 0, .ptr 1 0]) (fun r => [.box 3 [.int .i64 (r.fst)], .box 3 [.int .i64 (r.snd)]]) (Q := Q) (ACalls.introX (mv := mv) tab_ok mixed_ (fn := Try.f36) (by kernel_rfl) rfl (by kernel_rfl) (by kernel_rfl) (leB rfl) ?_) (fun v => by first | exact ⟨rfl, leB rfl⟩ | (cases v <;> exact ⟨rfl, leB rfl⟩)) k
  conv => whnf
  refine ACalls.inn (c_window_Out (W.bindE h) (fun v1 h => ?_)) ⟨rfl, rfl⟩
  conv => whnf
  refine ⟨_, Weak.a ?_, ?_, h⟩; (conv => whnf); exact ⟨rfl, rfl, rfl, rfl, rfl⟩; exact rfl
open Go.RowKit in
theorem it_window_Positions_1 {a0 a1 : Int} (hN : posOK a0 a1) : AIter Try.prog tab 61 [[I a0], [I a1]] (fun x : Int × Int => [I x.1, I x.2]) (posW a0 a1) := by
  obtain ⟨hr, hc1⟩ := hN
  refine ⟨⟨Try.f61, by kernel_rfl, by kernel_rfl, by kernel_rfl⟩, fun bs w l J hg hc hy h0 => ?_⟩
  have hlen := (hc 0 w h0).1
  match bs, hlen with
  | [b1, b2], _ =>
    have cap : ∀ i W, J i W → W.cell? ⟨b1, 0, none⟩ = some (.int .i64 a0) ∧ W.cell? ⟨b2, 0, none⟩ = some (.int .i64 a1) := fun i W hj => by
      obtain ⟨_, hcap⟩ := hc i W hj
      obtain ⟨vs1, r1, q1⟩ := hcap 0 b1 [I a0] rfl rfl
      obtain ⟨vs2, r2, q2⟩ := hcap 1 b2 [I a1] rfl rfl
      match vs1, q1, vs2, q2 with
      | [u1], q1, [u2], q2 =>
        have e1 : u1 = .int .i64 a0 := q1.1
        have e2 : u2 = .int .i64 a1 := q2.1
        subst e1 e2
        exact ⟨r1 0 _ rfl, r2 0 _ rfl⟩
    obtain ⟨h1, h2⟩ := cap 0 w h0
    have hy' : ∀ (y x : Nat) (W : World), y < a0.toNat → x < a1.toNat → J (y * a1.toNat + x) W → YieldAt (Wd none) 0 Try.prog l #[.int .i64 y, .int .i64 x] W fun e W' => e = .returned (.bool true) ∧ J (y * a1.toNat + x + 1) W' := fun y x W h3 h4 hj =>
      hy (y * a1.toNat + x) (Go.Proofs.Ytgeedlfnjneeiaa.VX.W.ret ((y : Int), (x : Int))) W (by unfold posW; rw [List.getElem?_map, posL_get _ _ y x h3 h4]; rfl) hj W [.int .i64 y, .int .i64 x] ⟨Nat.le_refl _, fun _ _ => rfl, rfl, rfl, rfl⟩ ⟨rfl, rfl, trivial⟩
    have hlast : (posW a0 a1).length = a0.toNat * a1.toNat := by unfold posW; rw [List.length_map, posL_len]
    rw [hlast]
    clear hlast hy
    refine callsIn_Wd.1 (callsIn_of_wp_marks (F := Wd none) (n := 0) (fn := Try.f61) (by kernel_rfl) rfl trivial ?_)
    show Code.wpIn _ _ _ _ _ { tmps := #[.func (.yield l) #[] #[], .pointer (some ⟨b1, 0, none⟩), .pointer (some ⟨b2, 0, none⟩)] ++ Array.replicate 18 undef, defers := [] } _
    simp only [Array.replicate_succ, Array.replicate_zero, List.push_toArray, List.append_toArray, List.nil_append, List.cons_append]
    have hro : (Wd none).round = none := rfl
    have hdp : (Wd none).depth = none := rfl
    generalize hWd : Wd none = F at hro hdp hy' ⊢
    gi_wp2
    refine wpIn_loop (fun a W => ∃ (y : Nat) (v3 v4 v5 v8 v9 v10 v11 v12 v13 v14 v15 v16 v17 v18 v19 v20 : Value), y ≤ a0.toNat ∧ J (y * a1.toNat) W ∧
      a = { tmps := #[.func (.yield l) #[] #[], .pointer (some ⟨b1, 0, none⟩), .pointer (some ⟨b2, 0, none⟩), v3, v4, v5, .int .i64 a0, .int .i64 y, v8, v9, v10, v11, v12, v13, v14, v15, v16, v17, v18, v19, v20], defers := [] })
      (fun a _ => a0.toNat - vI (a.tmps.getD 7 undef)) ⟨0, _, _, _, _, _, _, _, _, _, _, _, _, _, _, _, _, Nat.zero_le _, by simpa using h0, rfl⟩ ?_
    rintro _ W ⟨y, v3, v4, v5, v8, v9, v10, v11, v12, v13, v14, v15, v16, v17, v18, v19, v20, hyr, hj, rfl⟩
    have h2' := (cap _ _ hj).2
    by_cases hyl : (y : Int) < a0
    · gi_wp2
      refine wpIn_loop (fun a W => ∃ (x : Nat) (v3 v5 v8 v9 v12 v13 v14 v15 v16 v17 v18 v19 v20 : Value), x ≤ a1.toNat ∧ J (y * a1.toNat + x) W ∧
        a = { tmps := #[.func (.yield l) #[] #[], .pointer (some ⟨b1, 0, none⟩), .pointer (some ⟨b2, 0, none⟩), v3, .int .i64 y, v5, .int .i64 a0, .int .i64 y, v8, v9, .int .i64 a1, .int .i64 x, v12, v13, v14, v15, v16, v17, v18, v19, v20], defers := [] })
        (fun a _ => a1.toNat - vI (a.tmps.getD 11 undef)) ⟨0, _, _, _, _, _, _, _, _, _, _, _, _, _, Nat.zero_le _, by simpa using hj, rfl⟩ ?_
      rintro _ W ⟨x, v3, v5, v8, v9, v12, v13, v14, v15, v16, v17, v18, v19, v20, hxc, hj, rfl⟩
      by_cases hxl : (x : Int) < a1
      · obtain ⟨fn1, t1, as1, bo1, hy1, hR1⟩ := hy' y x W (by omega) (by omega) hj
        have hn1 : F.depth.isSome = true → 1 ≤ 0 := fun e => by rw [hdp] at e; cases e
        gi_wp2
        refine hR1.mono ?_
        rintro e W1 ⟨rfl, h1'⟩
        gi_wp2
        refine ⟨⟨x + 1, _, _, _, _, _, _, _, _, _, _, _, _, _, by omega, h1', rfl⟩, ?_⟩
        show a1.toNat - ((x : Int) + 1).toNat < a1.toNat - ((x : Int)).toNat
        omega
      · gi_wp2
        have hx : x = a1.toNat := by omega
        subst hx
        refine ⟨⟨y + 1, by omega, by rw [Nat.succ_mul]; exact hj, by omega⟩, ?_⟩
        simp only [vI]
        omega
    · gi_wp2
      have hyy : y = a0.toNat := by omega
      subst hyy
      exact ⟨_, run_noresults rfl _, ⟨_, rfl⟩, hj⟩
theorem c_plain_greatest {a0 : Int} {a1 : Int} {a2 : Int} {a3 : Int} {a4 : Int} {a5 : Int} {a6 : Int} {a7 : Int} {a8 : Int} {a9 : Int} {a10 : Int} {a11 : Int} {a12 : Bool} {a13 : Rws} {a14 : Bool} {a15 : Rws} {a16 : Int} {a17 : Int} {a18 : Int} {a19 : Int} {a20 : Int} {a21 : Int} {a22 : Int} {a23 : Int} {a24 : Int} {a25 : Int} {a26 : Int} {a27 : Bool} {a28 : Rws} {Q : Bool × Rws → Prop} {R : AV → List AB → Prop} (h : (g_plain_greatest a0 a1 a2 a3 a4 a5 a6 a7 a8 a9 a10 a11 a12 a13 a14 a15 a16 a17 a18 a19 a20 a21 a22 a23 a24 a25 a26 a27 a28).run Q) (k : ∀ r, Q r → R (.own 0) ([.arr true 56 (r.fst) (r.snd)])) : ACalls Try.prog tab 23 [.agg [.int .i64 (a0), .int .i64 (a1), .int .i64 (a2), .int .i64 (a3), .int .i64 (a4), .int .i64 (a5), .int .i64 (a6), .int .i64 (a7), .int .i64 (a8), .int .i64 (a9), .int .i64 (a10), .int .i64 (a11), .sl (a12) 74 (a13), .sl (a14) 21 (a15), .int .i64 (a16), .int .i64 (a17), .int .i64 (a18), .int .i64 (a19), .int .i64 (a20), .int .i64 (a21), .int .i64 (a22), .int .i64 (a23)], .agg [.int .i64 (a24), .int .i64 (a25), .int .i64 (a26)], .sl (a27) 56 (a28)] [] R := by
  refine ACalls.out (fun r => .own 0) (fun r => [.arr true 56 (r.fst) (r.snd)]) (Q := Q) (ACalls.introX (mv := mv) tab_ok mixed_ (fn := Try.f23) (by kernel_rfl) rfl (by kernel_rfl) (by kernel_rfl) (leB rfl) ?_) (fun v => by first | exact ⟨rfl, leB rfl⟩ | (cases v <;> exact ⟨rfl, leB rfl⟩)) k
  conv => whnf
  refine ASeq.go tab_ok mixed_ ?_
  conv => whnf
  refine ACalls.inn (c_window_Positions (W.bindE h) (fun v16 h => ?_)) ⟨rfl, rfl⟩
  conv => whnf
  have hN := XNeed.c h; replace h := XNeed.x h
  refine ASeq.range tab_ok mixed_ 2 (ids := [0, 1]) (cs := [[.int .i64 (v16.fst)], [.int .i64 (v16.snd)]]) (fx := [3, 4, 5, 6, 7, 8, 16]) (fun v17 => ⟨[(3, .ptr 2 0), (4, .ptr 3 0), (5, .ptr 4 0), (6, .nils), (7, .ptr 5 0), (8, .ptr 6 0), (16, .fn 61 [] [.ptr 0 0, .ptr 1 0])], [(0, .box 3 [.int .i64 (v16.fst)]), (1, .box 3 [.int .i64 (v16.snd)]), (2, .box 45 [.int .i64 (a0), .int .i64 (a1), .int .i64 (a2), .int .i64 (a3), .int .i64 (a4), .int .i64 (a5), .int .i64 (a6), .int .i64 (a7), .int .i64 (a8), .int .i64 (a9), .int .i64 (a10), .int .i64 (a11), .sl (a12) 74 (a13), .sl (a14) 21 (a15), .int .i64 (a16), .int .i64 (a17), .int .i64 (a18), .int .i64 (a19), .int .i64 (a20), .int .i64 (a21), .int .i64 (a22), .int .i64 (a23)]), (3, .box 23 [.int .i64 (a24), .int .i64 (a25), .int .i64 (a26)]), (4, .box 52 [.sl (a27) 56 (a28)]), (5, .box 52 [.own 7]), (6, .box 3 [.int .i64 (v17.fst)]), (7, .arr true 56 (v17.snd.fst) (v17.snd.snd))], 8, [], []⟩) _ ⟨fun _ => rfl, fun _ => (And.intro (Exists.intro _ rfl) (And.intro (Exists.intro _ rfl) trivial)), rfl, rfl, leB rfl, fun _ => leB rfl, fun _ => rfl, fun _ => ⟨rfl, rfl⟩, rfl, by decide +kernel, by decide +kernel⟩ (it_window_Positions_1 hN) (fun _ => rfl) (W.bindE h) (Weak.a ?_) (fun v18 v17 Q h => ?_) (fun v31 h => ?_)
  · conv => whnf
    exact ⟨rfl, rfl, rfl, rfl, rfl⟩
  · conv => whnf
    refine ASeq.go tab_ok mixed_ ?_
    conv => whnf
    refine ALoop.ofW tab_ok mixed_ (fun v19 => ⟨[(3, .ptr 2 0), (4, .ptr 3 0), (5, .ptr 4 0), (6, .nils), (7, .ptr 5 0), (8, .ptr 6 0), (16, .fn 61 [] [.ptr 0 0, .ptr 1 0]), (19, .ptr 3 2), (20, .int .i64 (a26)), (21, .int .i64 (v19.fst))], [(0, .box 3 [.int .i64 (v16.fst)]), (1, .box 3 [.int .i64 (v16.snd)]), (2, .box 45 [.int .i64 (a0), .int .i64 (a1), .int .i64 (a2), .int .i64 (a3), .int .i64 (a4), .int .i64 (a5), .int .i64 (a6), .int .i64 (a7), .int .i64 (a8), .int .i64 (a9), .int .i64 (a10), .int .i64 (a11), .sl (a12) 74 (a13), .sl (a14) 21 (a15), .int .i64 (a16), .int .i64 (a17), .int .i64 (a18), .int .i64 (a19), .int .i64 (a20), .int .i64 (a21), .int .i64 (a22), .int .i64 (a23)]), (3, .box 23 [.int .i64 (a24), .int .i64 (a25), .int .i64 (a26)]), (4, .box 52 [.sl (a27) 56 (a28)]), (5, .box 52 [.own 7]), (6, .box 3 [.int .i64 (v17.fst)]), (7, .arr true 56 (v19.snd.fst) (v19.snd.snd))], 8, [], []⟩) (fun v20 => (.exit 2, ⟨[(3, .ptr 2 0), (4, .ptr 3 0), (5, .ptr 4 0), (6, .nils), (7, .ptr 5 0), (8, .ptr 6 0), (16, .fn 61 [] [.ptr 0 0, .ptr 1 0]), (19, .ptr 3 2), (20, .int .i64 (a26)), (21, .int .i64 (v20.fst)), (22, .bool (v20.snd.fst))], [(0, .box 3 [.int .i64 (v16.fst)]), (1, .box 3 [.int .i64 (v16.snd)]), (2, .box 45 [.int .i64 (a0), .int .i64 (a1), .int .i64 (a2), .int .i64 (a3), .int .i64 (a4), .int .i64 (a5), .int .i64 (a6), .int .i64 (a7), .int .i64 (a8), .int .i64 (a9), .int .i64 (a10), .int .i64 (a11), .sl (a12) 74 (a13), .sl (a14) 21 (a15), .int .i64 (a16), .int .i64 (a17), .int .i64 (a18), .int .i64 (a19), .int .i64 (a20), .int .i64 (a21), .int .i64 (a22), .int .i64 (a23)]), (3, .box 23 [.int .i64 (a24), .int .i64 (a25), .int .i64 (a26)]), (4, .box 52 [.sl (a27) 56 (a28)]), (5, .box 52 [.own 7]), (6, .box 3 [.int .i64 (v17.fst)]), (7, .arr true 56 (v20.snd.snd.fst) (v20.snd.snd.snd))], 8, [], []⟩)) (W.bindE h) (Weak.a ?_) (fun v19 J_ Q h => ?_) (fun v20 h => ?_)
    · conv => whnf
      exact ⟨rfl, rfl, rfl, rfl, rfl⟩
    · conv => whnf
      refine ASeq.go tab_ok mixed_ ?_
      conv => whnf
      refine XSplit.mk (fun e => ?_) (fun e => ?_)
      · replace h := XSplit.t h e
        conv => whnf
        refine ASeq.go tab_ok mixed_ ?_
        conv => whnf
        refine ASeq.joinW tab_ok mixed_ (fun v21 => ⟨[(3, .ptr 2 0), (4, .ptr 3 0), (5, .ptr 4 0), (6, .nils), (7, .ptr 5 0), (8, .ptr 6 0), (9, .ptr 7 0), (10, .ptr 8 0), (16, .fn 61 [] [.ptr 0 0, .ptr 1 0]), (19, .ptr 3 2), (20, .int .i64 (a26)), (21, .int .i64 (v19.fst)), (22, .bool (decide (v19.fst < a26))), (23, .int .i64 (v19.fst)), (24, .agg [.int .i64 (a24), .int .i64 (a25), .int .i64 (a26)]), (25, .ptr 2 4), (26, .agg [.int .i64 (a4), .int .i64 (a5), .int .i64 (a6), .int .i64 (a7), .int .i64 (a8), .int .i64 (a9), .int .i64 (a10), .int .i64 (a11)]), (27, .int .i64 (v17.fst))], [(0, .box 3 [.int .i64 (v16.fst)]), (1, .box 3 [.int .i64 (v16.snd)]), (2, .box 45 [.int .i64 (a0), .int .i64 (a1), .int .i64 (a2), .int .i64 (a3), .int .i64 (a4), .int .i64 (a5), .int .i64 (a6), .int .i64 (a7), .int .i64 (a8), .int .i64 (a9), .int .i64 (a10), .int .i64 (a11), .sl (a12) 74 (a13), .sl (a14) 21 (a15), .int .i64 (a16), .int .i64 (a17), .int .i64 (a18), .int .i64 (a19), .int .i64 (a20), .int .i64 (a21), .int .i64 (a22), .int .i64 (a23)]), (3, .box 23 [.int .i64 (a24), .int .i64 (a25), .int .i64 (a26)]), (4, .box 52 [.sl (a27) 56 (a28)]), (5, .box 52 [.own 9]), (6, .box 3 [.int .i64 (v17.fst)]), (7, .box 3 [.int .i64 (v19.fst)]), (8, .box 56 [.int .i8 (v21)]), (9, .arr true 56 (v19.snd.fst) (v19.snd.snd))], 10, [], []⟩) h (fun Q h => ?_) (fun v21 h => ?_)
        · conv => whnf
          refine ACalls.inn (c_window_Taps (W.bindE h) (fun v h => ?_)) ⟨rfl, rfl⟩
          rcases v with v22 | v26
          · conv => whnf
            refine ASeq.range tab_ok mixed_ 2 (ids := []) (cs := []) (fx := [3, 4, 5, 6, 7, 8, 9, 10, 16, 19, 20, 21, 22, 23, 24, 25, 26, 27, 28]) (fun v23 => ⟨[(3, .ptr 2 0), (4, .ptr 3 0), (5, .ptr 4 0), (6, .nils), (7, .ptr 5 0), (8, .ptr 6 0), (9, .ptr 7 0), (10, .ptr 8 0), (16, .fn 61 [] [.ptr 0 0, .ptr 1 0]), (19, .ptr 3 2), (20, .int .i64 (a26)), (21, .int .i64 (v19.fst)), (22, .bool (decide (v19.fst < a26))), (23, .int .i64 (v19.fst)), (24, .agg [.int .i64 (a24), .int .i64 (a25), .int .i64 (a26)]), (25, .ptr 2 4), (26, .agg [.int .i64 (a4), .int .i64 (a5), .int .i64 (a6), .int .i64 (a7), .int .i64 (a8), .int .i64 (a9), .int .i64 (a10), .int .i64 (a11)]), (27, .int .i64 (v17.fst)), (28, .fn 62 [] [])], [(0, .box 3 [.int .i64 (v16.fst)]), (1, .box 3 [.int .i64 (v16.snd)]), (2, .box 45 [.int .i64 (a0), .int .i64 (a1), .int .i64 (a2), .int .i64 (a3), .int .i64 (a4), .int .i64 (a5), .int .i64 (a6), .int .i64 (a7), .int .i64 (a8), .int .i64 (a9), .int .i64 (a10), .int .i64 (a11), .sl (a12) 74 (a13), .sl (a14) 21 (a15), .int .i64 (a16), .int .i64 (a17), .int .i64 (a18), .int .i64 (a19), .int .i64 (a20), .int .i64 (a21), .int .i64 (a22), .int .i64 (a23)]), (3, .box 23 [.int .i64 (a24), .int .i64 (a25), .int .i64 (a26)]), (4, .box 52 [.sl (a27) 56 (a28)]), (5, .box 52 [.own 9]), (6, .box 3 [.int .i64 (v17.fst)]), (7, .box 3 [.int .i64 (v19.fst)]), (8, .box 56 [.int .i8 (-128)]), (9, .arr true 56 (v19.snd.fst) (v19.snd.snd))], 10, [], []⟩) _ ⟨fun _ => rfl, fun _ => trivial, rfl, rfl, leB rfl, fun _ => leB rfl, fun _ => rfl, fun _ => ⟨rfl, rfl⟩, rfl, by decide +kernel, by decide +kernel⟩ it_window_Taps_1 (fun _ => rfl) (W.bindE h) (Weak.a ?_) (fun _ v23 Q h => ?_) (fun v25 h => ?_)
            · conv => whnf
              exact ⟨rfl, rfl, rfl, rfl, rfl⟩
            · skip
              exact h.elim
            · conv => whnf
              refine ⟨_, Weak.a ?_, h⟩; (conv => whnf); exact ⟨rfl, rfl, rfl, rfl, rfl⟩
          · conv => whnf
            have hN := XNeed.c h; replace h := XNeed.x h
            refine ASeq.range tab_ok mixed_ 6 (ids := [2, 3, 4, 5]) (cs := [[.int .i64 (v26.fst), .int .i64 (v26.snd.fst), .int .i64 (v26.snd.snd.fst), .int .i64 (v26.snd.snd.snd.fst), .int .i64 (v26.snd.snd.snd.snd.fst), .int .i64 (v26.snd.snd.snd.snd.snd.fst), .int .i64 (v26.snd.snd.snd.snd.snd.snd.fst), .int .i64 (v26.snd.snd.snd.snd.snd.snd.snd.fst)], [.int .i64 (v26.snd.snd.snd.snd.snd.snd.snd.snd.fst)], [.int .i64 (v26.snd.snd.snd.snd.snd.snd.snd.snd.snd.fst)], [.int .i64 (v26.snd.snd.snd.snd.snd.snd.snd.snd.snd.snd.fst), .int .i64 (v26.snd.snd.snd.snd.snd.snd.snd.snd.snd.snd.snd.fst), .int .i64 (v26.snd.snd.snd.snd.snd.snd.snd.snd.snd.snd.snd.snd)]]) (fx := [3, 4, 5, 6, 7, 8, 9, 10, 16, 19, 20, 21, 22, 23, 24, 25, 26, 27, 28]) (fun v27 => ⟨[(3, .ptr 6 0), (4, .ptr 7 0), (5, .ptr 8 0), (6, .nils), (7, .ptr 9 0), (8, .ptr 10 0), (9, .ptr 11 0), (10, .ptr 12 0), (16, .fn 61 [] [.ptr 0 0, .ptr 1 0]), (19, .ptr 7 2), (20, .int .i64 (a26)), (21, .int .i64 (v19.fst)), (22, .bool (decide (v19.fst < a26))), (23, .int .i64 (v19.fst)), (24, .agg [.int .i64 (a24), .int .i64 (a25), .int .i64 (a26)]), (25, .ptr 6 4), (26, .agg [.int .i64 (a4), .int .i64 (a5), .int .i64 (a6), .int .i64 (a7), .int .i64 (a8), .int .i64 (a9), .int .i64 (a10), .int .i64 (a11)]), (27, .int .i64 (v17.fst)), (28, .fn 63 [] [.ptr 2 0, .ptr 3 0, .ptr 4 0, .ptr 5 0])], [(0, .box 3 [.int .i64 (v16.fst)]), (1, .box 3 [.int .i64 (v16.snd)]), (2, .box 39 [.int .i64 (v26.fst), .int .i64 (v26.snd.fst), .int .i64 (v26.snd.snd.fst), .int .i64 (v26.snd.snd.snd.fst), .int .i64 (v26.snd.snd.snd.snd.fst), .int .i64 (v26.snd.snd.snd.snd.snd.fst), .int .i64 (v26.snd.snd.snd.snd.snd.snd.fst), .int .i64 (v26.snd.snd.snd.snd.snd.snd.snd.fst)]), (3, .box 3 [.int .i64 (v26.snd.snd.snd.snd.snd.snd.snd.snd.fst)]), (4, .box 3 [.int .i64 (v26.snd.snd.snd.snd.snd.snd.snd.snd.snd.fst)]), (5, .box 23 [.int .i64 (v26.snd.snd.snd.snd.snd.snd.snd.snd.snd.snd.fst), .int .i64 (v26.snd.snd.snd.snd.snd.snd.snd.snd.snd.snd.snd.fst), .int .i64 (v26.snd.snd.snd.snd.snd.snd.snd.snd.snd.snd.snd.snd)]), (6, .box 45 [.int .i64 (a0), .int .i64 (a1), .int .i64 (a2), .int .i64 (a3), .int .i64 (a4), .int .i64 (a5), .int .i64 (a6), .int .i64 (a7), .int .i64 (a8), .int .i64 (a9), .int .i64 (a10), .int .i64 (a11), .sl (a12) 74 (a13), .sl (a14) 21 (a15), .int .i64 (a16), .int .i64 (a17), .int .i64 (a18), .int .i64 (a19), .int .i64 (a20), .int .i64 (a21), .int .i64 (a22), .int .i64 (a23)]), (7, .box 23 [.int .i64 (a24), .int .i64 (a25), .int .i64 (a26)]), (8, .box 52 [.sl (a27) 56 (a28)]), (9, .box 52 [.own 13]), (10, .box 3 [.int .i64 (v17.fst)]), (11, .box 3 [.int .i64 (v19.fst)]), (12, .box 56 [.int .i8 (v27)]), (13, .arr true 56 (v19.snd.fst) (v19.snd.snd))], 14, [], []⟩) _ ⟨fun _ => rfl, fun _ => (And.intro (Exists.intro _ rfl) (And.intro (Exists.intro _ rfl) (And.intro (Exists.intro _ rfl) (And.intro (Exists.intro _ rfl) trivial)))), rfl, rfl, leB rfl, fun _ => leB rfl, fun _ => rfl, fun _ => ⟨rfl, rfl⟩, rfl, by decide +kernel, by decide +kernel⟩ (it_window_Taps_2 hN) (fun _ => rfl) (W.bindE h) (Weak.a ?_) (fun v28 v27 Q h => ?_) (fun v29 h => ?_)
            · conv => whnf
              exact ⟨rfl, rfl, rfl, rfl, rfl⟩
            · conv => whnf
              refine XDraw.d [0, 1, 2, 3, 4, 5, 6, 7, 8, 9, 10, 11] [[], [], [], [], [], [], [], [], [], [], [], [12]] (by decide +kernel) ?_
              conv => whnf
              refine XNeed.mk (XNeed.c h) ?_; replace h := XNeed.x h
              conv => whnf
              refine ⟨_, Weak.a ?_, h⟩; (conv => whnf); exact ⟨rfl, rfl, rfl, rfl, rfl⟩
            · conv => whnf
              refine ⟨_, Weak.a ?_, h⟩; (conv => whnf); exact ⟨rfl, rfl, rfl, rfl, rfl⟩
        · conv => whnf
          refine XDraw.d [0, 1, 2, 3, 4, 5, 6, 7] [[], [], [], [10], [], [], [9], [5]] (by decide +kernel) ?_
          conv => whnf
          refine ACalls.inn (c_plain_home (W.bindE h) (fun v30 h => ?_)) ⟨rfl, rfl⟩
          conv => whnf
          refine XNeed.mk (XNeed.c h) ?_; replace h := XNeed.x h
          conv => whnf
          refine ⟨_, Weak.a ?_, h⟩; (conv => whnf); exact ⟨rfl, rfl, rfl, rfl, rfl⟩
      · replace h := XSplit.f h e
        conv => whnf
        refine ⟨_, ?_, Weak.a ?_, h⟩; exact rfl; (conv => whnf); exact ⟨rfl, rfl, rfl, rfl, rfl⟩
    · conv => whnf
      refine ⟨_, Weak.a ?_, h⟩; (conv => whnf); exact ⟨rfl, rfl, rfl, rfl, rfl⟩
  · conv => whnf
    refine ⟨_, Weak.a ?_, ?_, h⟩; (conv => whnf); exact ⟨rfl, rfl, rfl, rfl, rfl⟩; exact rfl
theorem c_plain_each {a0 : Int} {a1 : Int} {a2 : Int} {a3 : Int} {a4 : Int} {a5 : Int} {a6 : Int} {a7 : Int} {a8 : Int} {a9 : Int} {a10 : Int} {a11 : Int} {a12 : Bool} {a13 : Rws} {a14 : Bool} {a15 : Rws} {a16 : Int} {a17 : Int} {a18 : Int} {a19 : Int} {a20 : Int} {a21 : Int} {a22 : Int} {a23 : Int} {a24 : Bool} {a25 : Rws} {a26 : Bool} {a27 : Rws} {Q : Bool × Rws → Prop} {R : AV → List AB → Prop} (h : (g_plain_each a0 a1 a2 a3 a4 a5 a6 a7 a8 a9 a10 a11 a12 a13 a14 a15 a16 a17 a18 a19 a20 a21 a22 a23 a24 a25 a26 a27).run Q) (k : ∀ r, Q r → R (.own 0) ([.arr true 56 (r.fst) (r.snd)])) : ACalls Try.prog tab 24 [.agg [.int .i64 (a0), .int .i64 (a1), .int .i64 (a2), .int .i64 (a3), .int .i64 (a4), .int .i64 (a5), .int .i64 (a6), .int .i64 (a7), .int .i64 (a8), .int .i64 (a9), .int .i64 (a10), .int .i64 (a11), .sl (a12) 74 (a13), .sl (a14) 21 (a15), .int .i64 (a16), .int .i64 (a17), .int .i64 (a18), .int .i64 (a19), .int .i64 (a20), .int .i64 (a21), .int .i64 (a22), .int .i64 (a23)], .sl (a24) 56 (a25), .sl (a26) 56 (a27)] [] R := by
  refine ACalls.out (fun r => .own 0) (fun r => [.arr true 56 (r.fst) (r.snd)]) (Q := Q) (ACalls.introX (mv := mv) tab_ok mixed_ (fn := Try.f24) (by kernel_rfl) rfl (by kernel_rfl) (by kernel_rfl) (leB rfl) ?_) (fun v => by first | exact ⟨rfl, leB rfl⟩ | (cases v <;> exact ⟨rfl, leB rfl⟩)) k
  conv => whnf
  refine XNeed.mk (XNeed.c h) ?_; replace h := XNeed.x h
  conv => whnf
  refine ASeq.go tab_ok mixed_ ?_
  conv => whnf
  refine ALoop.ofW tab_ok mixed_ (fun v7 => ⟨[(1, .sl (a24) 56 (a25)), (2, .sl (a26) 56 (a27)), (3, .ptr 0 0), (6, .nils), (7, .own 1), (16, .int .i64 ((↑(List.length a25) : Int))), (17, .int .i64 (v7.fst))], [(0, .box 45 [.int .i64 (a0), .int .i64 (a1), .int .i64 (a2), .int .i64 (a3), .int .i64 (a4), .int .i64 (a5), .int .i64 (a6), .int .i64 (a7), .int .i64 (a8), .int .i64 (a9), .int .i64 (a10), .int .i64 (a11), .sl (a12) 74 (a13), .sl (a14) 21 (a15), .int .i64 (a16), .int .i64 (a17), .int .i64 (a18), .int .i64 (a19), .int .i64 (a20), .int .i64 (a21), .int .i64 (a22), .int .i64 (a23)]), (1, .arr true 56 (false) (v7.snd))], 2, [], []⟩) (fun v8 => (.exit 0, ⟨[(6, .nils), (7, .own 0)], [(0, .arr true 56 (false) (v8))], 1, [], []⟩)) (W.bindE h) (Weak.a ?_) (fun v7 J_ Q h => ?_) (fun v8 h => ?_)
  · conv => whnf
    exact ⟨rfl, rfl, rfl, rfl, rfl⟩
  · conv => whnf
    refine ASeq.go tab_ok mixed_ ?_
    conv => whnf
    refine XSplit.mk (fun e => ?_) (fun e => ?_)
    · replace h := XSplit.t h e
      conv => whnf
      refine ASeq.go tab_ok mixed_ ?_
      conv => whnf
      refine XNeed.mk (XNeed.c h) ?_; replace h := XNeed.x h
      conv => whnf
      refine ASeq.joinW tab_ok mixed_ (fun v9 => ⟨[(1, .sl (a24) 56 (a25)), (2, .sl (a26) 56 (a27)), (3, .ptr 0 0), (6, .nils), (7, .own 1), (8, .int .i64 (v7.fst)), (9, .int .i64 (v9)), (16, .int .i64 ((↑(List.length a25) : Int))), (17, .int .i64 (v7.fst)), (18, .bool (decide (v7.fst < (↑(List.length a25) : Int)))), (19, .int .i64 (v7.fst)), (20, .sl (a24) 56 (a25)), (21, .int .i64 (v7.fst)), (22, .rel 56 (a25) (v7.fst.toNat) 0), (23, .int .i8 (ri a25 v7.fst.toNat 0)), (24, .int .i64 (IntKind.i64.wrap (ri a25 v7.fst.toNat 0))), (25, .ptr 0 0), (26, .int .i64 (a0)), (27, .bool (a0 != 8))], [(0, .box 45 [.int .i64 (a0), .int .i64 (a1), .int .i64 (a2), .int .i64 (a3), .int .i64 (a4), .int .i64 (a5), .int .i64 (a6), .int .i64 (a7), .int .i64 (a8), .int .i64 (a9), .int .i64 (a10), .int .i64 (a11), .sl (a12) 74 (a13), .sl (a14) 21 (a15), .int .i64 (a16), .int .i64 (a17), .int .i64 (a18), .int .i64 (a19), .int .i64 (a20), .int .i64 (a21), .int .i64 (a22), .int .i64 (a23)]), (1, .arr true 56 (false) (v7.snd))], 2, [], []⟩) h (fun Q h => ?_) (fun v9 h => ?_)
      · conv => whnf
        refine XSplit.mk (fun e => ?_) (fun e => ?_)
        · replace h := XSplit.t h e
          conv => whnf
          refine ACalls.inn (c_fixq_Apply (W.bindE h) (fun v10 h => ?_)) ⟨rfl, rfl⟩
          conv => whnf
          refine ⟨_, Weak.a ?_, h⟩; (conv => whnf); exact ⟨rfl, rfl, rfl, rfl, rfl⟩
        · replace h := XSplit.f h e
          conv => whnf
          refine ⟨_, Weak.a ?_, h⟩; (conv => whnf); exact ⟨rfl, rfl, rfl, rfl, rfl⟩
      · conv => whnf
        refine ASeq.joinW tab_ok mixed_ (fun v11 => ⟨[(1, .sl (a24) 56 (a25)), (2, .sl (a26) 56 (a27)), (3, .ptr 0 0), (6, .nils), (7, .own 1), (8, .int .i64 (v7.fst)), (9, .int .i64 (v11)), (16, .int .i64 ((↑(List.length a25) : Int))), (17, .int .i64 (v7.fst)), (18, .bool (decide (v7.fst < (↑(List.length a25) : Int)))), (19, .int .i64 (v7.fst)), (20, .sl (a24) 56 (a25)), (21, .int .i64 (v7.fst)), (22, .rel 56 (a25) (v7.fst.toNat) 0), (23, .int .i8 (ri a25 v7.fst.toNat 0)), (24, .int .i64 (IntKind.i64.wrap (ri a25 v7.fst.toNat 0))), (25, .ptr 0 0), (26, .int .i64 (a0)), (27, .bool (a0 != 8)), (35, .ptr 0 0), (36, .int .i64 (a0)), (37, .bool (a0 == 6))], [(0, .box 45 [.int .i64 (a0), .int .i64 (a1), .int .i64 (a2), .int .i64 (a3), .int .i64 (a4), .int .i64 (a5), .int .i64 (a6), .int .i64 (a7), .int .i64 (a8), .int .i64 (a9), .int .i64 (a10), .int .i64 (a11), .sl (a12) 74 (a13), .sl (a14) 21 (a15), .int .i64 (a16), .int .i64 (a17), .int .i64 (a18), .int .i64 (a19), .int .i64 (a20), .int .i64 (a21), .int .i64 (a22), .int .i64 (a23)]), (1, .arr true 56 (false) (v7.snd))], 2, [], []⟩) h (fun Q h => ?_) (fun v11 h => ?_)
        · conv => whnf
          refine XSplit.mk (fun e => ?_) (fun e => ?_)
          · replace h := XSplit.t h e
            conv => whnf
            refine XDraw.d [0, 1, 2, 3, 4, 5, 6, 7, 8, 9, 10, 11, 12] [[], [], [], [], [2], [], [], [2], [], [], [], [], []] (by decide +kernel) ?_
            conv => whnf
            refine XNeed.mk (XNeed.c h) ?_; replace h := XNeed.x h
            conv => whnf
            refine ACalls.inn (c_fixq_Apply (W.bindE h) (fun v12 h => ?_)) ⟨rfl, rfl⟩
            conv => whnf
            refine ⟨_, Weak.a ?_, h⟩; (conv => whnf); exact ⟨rfl, rfl, rfl, rfl, rfl⟩
          · replace h := XSplit.f h e
            conv => whnf
            refine ⟨_, Weak.a ?_, h⟩; (conv => whnf); exact ⟨rfl, rfl, rfl, rfl, rfl⟩
        · conv => whnf
          refine ACalls.inn (c_plain_home (W.bindE h) (fun v13 h => ?_)) ⟨rfl, rfl⟩
          conv => whnf
          refine XNeed.mk (XNeed.c h) ?_; replace h := XNeed.x h
          conv => whnf
          refine ⟨_, Weak.a ?_, h⟩; (conv => whnf); exact ⟨rfl, rfl, rfl, rfl, rfl⟩
    · replace h := XSplit.f h e
      conv => whnf
      refine ⟨_, ?_, Weak.a ?_, h⟩; exact rfl; (conv => whnf); exact ⟨rfl, rfl, rfl, rfl, rfl⟩
  · conv => whnf
    refine ⟨_, Weak.a ?_, ?_, h⟩; (conv => whnf); exact ⟨rfl, rfl, rfl, rfl, rfl⟩; exact rfl
theorem c_plain_Tensors {a0 : Int} {a1 : Int} {a2 : Int} {a3 : Int} {a4 : Int} {a5 : Bool} {a6 : Rws} {a7 : Int} {a8 : Bool} {a9 : Rws} {Q : Int × Int × Int × Bool × Rws → Prop} {R : AV → List AB → Prop} (h : (g_plain_Tensors a0 a1 a2 a3 a4 a5 a6 a7 a8 a9).run Q) (k : ∀ r, Q r → R (.tup [.own 0, .agg [.int .i64 (r.fst), .int .i64 (r.snd.fst), .int .i64 (r.snd.snd.fst)]]) ([.arr true 52 (r.snd.snd.snd.fst) (r.snd.snd.snd.snd)])) : ACalls Try.prog tab 10 [.agg [.int .i64 (a0), .int .i64 (a1), .int .i64 (a2), .int .i64 (a3), .int .i64 (a4), .sl (a5) 45 (a6), .int .i64 (a7)], .sl (a8) 56 (a9)] [] R := by
  refine ACalls.out (fun r => .tup [.own 0, .agg [.int .i64 (r.fst), .int .i64 (r.snd.fst), .int .i64 (r.snd.snd.fst)]]) (fun r => [.arr true 52 (r.snd.snd.snd.fst) (r.snd.snd.snd.snd)]) (Q := Q) (ACalls.introX (mv := mv) tab_ok mixed_ (fn := Try.f10) (by kernel_rfl) rfl (by kernel_rfl) (by kernel_rfl) (leB rfl) ?_) (fun v => by first | exact ⟨rfl, leB rfl⟩ | (cases v <;> exact ⟨rfl, leB rfl⟩)) k
  conv => whnf
  refine ACalls.inn (c_model_Shapes (W.bindE h) (fun v11 h => ?_)) ⟨rfl, rfl⟩
  conv => whnf
  refine ASeq.go tab_ok mixed_ ?_
  conv => whnf
  refine XSplit.mk (fun e => ?_) (fun e => ?_)
  · replace h := XSplit.t h e
    conv => whnf
    refine XDraw.d [0, 1, 2] [[], [], [1]] (by decide +kernel) ?_
    conv => whnf
    refine ⟨_, Weak.a ?_, ?_, h⟩; (conv => whnf); exact ⟨rfl, rfl, rfl, rfl, rfl⟩; exact rfl
  · replace h := XSplit.f h e
    conv => whnf
    refine ASeq.go tab_ok mixed_ ?_
    conv => whnf
    refine ASeq.joinW tab_ok mixed_ (fun v12 => ⟨[(1, .sl (a8) 56 (a9)), (2, .ptr 0 0), (4, .nils), (5, .ptr 1 0), (6, .own 2), (41, .bool (v12))], [(0, .box 26 [.int .i64 (a0), .int .i64 (a1), .int .i64 (a2), .int .i64 (a3), .int .i64 (a4), .sl (a5) 45 (a6), .int .i64 (a7)]), (1, .box 48 [.int .i64 (0), .int .i64 (0), .int .i64 (0)]), (2, .arr true 23 (v11.snd.snd.snd.fst) (v11.snd.snd.snd.snd))], 3, [], []⟩) h (fun Q h => ?_) (fun v12 h => ?_)
    · conv => whnf
      refine XSplit.mk (fun e => ?_) (fun e => ?_)
      · replace h := XSplit.t h e
        conv => whnf
        refine ⟨_, Weak.a ?_, h⟩; (conv => whnf); exact ⟨rfl, rfl, rfl, rfl, rfl⟩
      · replace h := XSplit.f h e
        conv => whnf
        refine ACalls.inn (c_slices_ContainsFunc___int8_int8___plain_Tensors_1 (W.bindE h) (fun v13 h => ?_)) ⟨rfl, rfl⟩
        conv => whnf
        refine ⟨_, Weak.a ?_, h⟩; (conv => whnf); exact ⟨rfl, rfl, rfl, rfl, rfl⟩
    · conv => whnf
      refine XSplit.mk (fun e => ?_) (fun e => ?_)
      · replace h := XSplit.t h e
        conv => whnf
        refine ⟨_, Weak.a ?_, ?_, h⟩; (conv => whnf); exact ⟨rfl, rfl, rfl, rfl, rfl⟩; exact rfl
      · replace h := XSplit.f h e
        conv => whnf
        refine ACalls.inn (c_slices_Clone___int8_int8_ (W.bindE h) (fun v14 h => ?_)) ⟨rfl, rfl⟩
        conv => whnf
        refine ASeq.go tab_ok mixed_ ?_
        conv => whnf
        refine ALoop.ofW tab_ok mixed_ (fun v15 => ⟨[(2, .ptr 0 0), (4, .nils), (5, .ptr 1 0), (6, .own 2), (9, .own 3), (47, .sl (a5) 45 (a6)), (48, .int .i64 ((↑(List.length a6) : Int))), (49, .int .i64 (v15.fst))], [(0, .box 26 [.int .i64 (a0), .int .i64 (a1), .int .i64 (a2), .int .i64 (a3), .int .i64 (a4), .sl (a5) 45 (a6), .int .i64 (a7)]), (1, .box 48 [.int .i64 (0), .int .i64 (0), .int .i64 (0)]), (2, .arr true 23 (v11.snd.snd.snd.fst) (v11.snd.snd.snd.snd)), (3, .arr true 52 (false) (v15.snd))], 4, [], []⟩) (fun v16 => (.exit 0, ⟨[(4, .nils), (5, .ptr 0 0), (9, .own 1)], [(0, .box 48 [.int .i64 (0), .int .i64 (0), .int .i64 (0)]), (1, .arr true 52 (false) (v16))], 2, [], []⟩)) (W.bindE h) (Weak.a ?_) (fun v15 J_ Q h => ?_) (fun v16 h => ?_)
        · conv => whnf
          exact ⟨rfl, rfl, rfl, rfl, rfl⟩
        · conv => whnf
          refine ASeq.go tab_ok mixed_ ?_
          conv => whnf
          refine XSplit.mk (fun e => ?_) (fun e => ?_)
          · replace h := XSplit.t h e
            conv => whnf
            refine ASeq.go tab_ok mixed_ ?_
            conv => whnf
            refine XNeed.mk (XNeed.c h) ?_; replace h := XNeed.x h
            conv => whnf
            refine ASeq.joinW tab_ok mixed_ (fun v17 => ⟨[(2, .ptr 0 0), (4, .nils), (5, .ptr 1 0), (6, .own 2), (9, .own 3), (10, .int .i64 (v15.fst)), (11, .ptr 4 0), (12, .own 5), (47, .sl (a5) 45 (a6)), (48, .int .i64 ((↑(List.length a6) : Int))), (49, .int .i64 (v15.fst)), (50, .bool (decide (v15.fst < (↑(List.length a6) : Int)))), (51, .int .i64 (v15.fst)), (52, .rel 45 (a6) (v15.fst.toNat) 0), (53, .agg [.int .i64 (ri a6 v15.fst.toNat 0), .int .i64 (ri a6 v15.fst.toNat 1), .int .i64 (ri a6 v15.fst.toNat 2), .int .i64 (ri a6 v15.fst.toNat 3), .int .i64 (ri a6 v15.fst.toNat 4), .int .i64 (ri a6 v15.fst.toNat 5), .int .i64 (ri a6 v15.fst.toNat 6), .int .i64 (ri a6 v15.fst.toNat 7), .int .i64 (ri a6 v15.fst.toNat 8), .int .i64 (ri a6 v15.fst.toNat 9), .int .i64 (ri a6 v15.fst.toNat 10), .int .i64 (ri a6 v15.fst.toNat 11), .sl (rn a6 v15.fst.toNat 12) 74 (rr a6 v15.fst.toNat 12), .sl (rn a6 v15.fst.toNat 13) 21 (rr a6 v15.fst.toNat 13), .int .i64 (ri a6 v15.fst.toNat 14), .int .i64 (ri a6 v15.fst.toNat 15), .int .i64 (ri a6 v15.fst.toNat 16), .int .i64 (ri a6 v15.fst.toNat 17), .int .i64 (ri a6 v15.fst.toNat 18), .int .i64 (ri a6 v15.fst.toNat 19), .int .i64 (ri a6 v15.fst.toNat 20), .int .i64 (ri a6 v15.fst.toNat 21)]), (66, .bool (v17.fst)), (67, .ptr 4 0), (68, .int .i64 (ri a6 v15.fst.toNat 0)), (69, .bool (v17.snd.fst))], [(0, .box 26 [.int .i64 (a0), .int .i64 (a1), .int .i64 (a2), .int .i64 (a3), .int .i64 (a4), .sl (a5) 45 (a6), .int .i64 (a7)]), (1, .box 48 [.int .i64 (0), .int .i64 (0), .int .i64 (0)]), (2, .arr true 23 (v11.snd.snd.snd.fst) (v11.snd.snd.snd.snd)), (3, .arr true 52 (false) (v15.snd)), (4, .box 45 [.int .i64 (ri a6 v15.fst.toNat 0), .int .i64 (ri a6 v15.fst.toNat 1), .int .i64 (ri a6 v15.fst.toNat 2), .int .i64 (ri a6 v15.fst.toNat 3), .int .i64 (ri a6 v15.fst.toNat 4), .int .i64 (ri a6 v15.fst.toNat 5), .int .i64 (ri a6 v15.fst.toNat 6), .int .i64 (ri a6 v15.fst.toNat 7), .int .i64 (ri a6 v15.fst.toNat 8), .int .i64 (ri a6 v15.fst.toNat 9), .int .i64 (ri a6 v15.fst.toNat 10), .int .i64 (ri a6 v15.fst.toNat 11), .sl (rn a6 v15.fst.toNat 12) 74 (rr a6 v15.fst.toNat 12), .sl (rn a6 v15.fst.toNat 13) 21 (rr a6 v15.fst.toNat 13), .int .i64 (ri a6 v15.fst.toNat 14), .int .i64 (ri a6 v15.fst.toNat 15), .int .i64 (ri a6 v15.fst.toNat 16), .int .i64 (ri a6 v15.fst.toNat 17), .int .i64 (ri a6 v15.fst.toNat 18), .int .i64 (ri a6 v15.fst.toNat 19), .int .i64 (ri a6 v15.fst.toNat 20), .int .i64 (ri a6 v15.fst.toNat 21)]), (5, .arr true 56 (v17.snd.snd.fst) (v17.snd.snd.snd))], 6, [], []⟩) h (fun Q h => ?_) (fun v17 h => ?_)
            · conv => whnf
              refine ACalls.inn (c_model_Reduces (W.bindE h) (fun v18 h => ?_)) ⟨rfl, rfl⟩
              conv => whnf
              refine XSplit.mk (fun e => ?_) (fun e => ?_)
              · replace h := XSplit.t h e
                conv => whnf
                refine XDraw.d [0, 1, 2, 3, 4, 5, 6, 7, 8, 9] [[], [], [], [], [], [], [], [], [5, 5], []] (by decide +kernel) ?_
                conv => whnf
                refine XNeed.mk (XNeed.c h) ?_; replace h := XNeed.x h
                conv => whnf
                refine ACalls.inn (c_plain_reduce (W.bindE h) (fun v19 h => ?_)) ⟨rfl, rfl⟩
                conv => whnf
                refine ⟨_, Weak.a ?_, h⟩; (conv => whnf); exact ⟨rfl, rfl, rfl, rfl, rfl⟩
              · replace h := XSplit.f h e
                conv => whnf
                refine XSplit.mk (fun e => ?_) (fun e => ?_)
                · replace h := XSplit.t h e
                  conv => whnf
                  refine XDraw.d [0, 1, 2, 3, 4, 5, 6, 7, 8, 9, 10, 11, 12] [[], [], [], [], [], [], [], [], [], [], [], [5, 5], []] (by decide +kernel) ?_
                  conv => whnf
                  refine XNeed.mk (XNeed.c h) ?_; replace h := XNeed.x h
                  conv => whnf
                  refine XNeed.mk (XNeed.c h) ?_; replace h := XNeed.x h
                  conv => whnf
                  refine ACalls.inn (c_plain_greatest (W.bindE h) (fun v20 h => ?_)) ⟨rfl, rfl⟩
                  conv => whnf
                  refine ⟨_, Weak.a ?_, h⟩; (conv => whnf); exact ⟨rfl, rfl, rfl, rfl, rfl⟩
                · replace h := XSplit.f h e
                  conv => whnf
                  refine XDraw.d [0, 1, 2, 3, 4, 5, 6, 7, 8, 9, 10, 11, 12] [[], [], [], [], [], [], [], [], [], [], [], [5, 5], []] (by decide +kernel) ?_
                  conv => whnf
                  refine XNeed.mk (XNeed.c h) ?_; replace h := XNeed.x h
                  conv => whnf
                  refine XNeed.mk (XNeed.c h) ?_; replace h := XNeed.x h
                  conv => whnf
                  refine ACalls.inn (c_plain_each (W.bindE h) (fun v21 h => ?_)) ⟨rfl, rfl⟩
                  conv => whnf
                  refine ⟨_, Weak.a ?_, h⟩; (conv => whnf); exact ⟨rfl, rfl, rfl, rfl, rfl⟩
            · conv => whnf
              refine XNeed.mk (XNeed.c h) ?_; replace h := XNeed.x h
              conv => whnf
              refine ⟨_, Weak.a ?_, h⟩; (conv => whnf); exact ⟨rfl, rfl, rfl, rfl, rfl⟩
          · replace h := XSplit.f h e
            conv => whnf
            refine ⟨_, ?_, Weak.a ?_, h⟩; exact rfl; (conv => whnf); exact ⟨rfl, rfl, rfl, rfl, rfl⟩
        · conv => whnf
          refine ⟨_, Weak.a ?_, ?_, h⟩; (conv => whnf); exact ⟨rfl, rfl, rfl, rfl, rfl⟩; exact rfl
theorem c_span_Has {a0 : Int} {a1 : Int} {a2 : Int} {Q : Bool → Prop} {R : AV → List AB → Prop} (h : (g_span_Has a0 a1 a2).run Q) (k : ∀ r, Q r → R (.bool (r)) ([])) : ACalls Try.prog tab 11 [.agg [.int .i64 (a0), .int .i64 (a1)], .int .i64 (a2)] [] R := by
  refine ACalls.out (fun r => .bool (r)) (fun r => []) (Q := Q) (ACalls.introX (mv := mv) tab_ok mixed_ (fn := Try.f11) (by kernel_rfl) rfl (by kernel_rfl) (by kernel_rfl) (leB rfl) ?_) (fun v => by first | exact ⟨rfl, leB rfl⟩ | (cases v <;> exact ⟨rfl, leB rfl⟩)) k
  conv => whnf
  refine ⟨_, Weak.a ?_, ?_, h⟩; (conv => whnf); exact ⟨rfl, rfl, rfl, rfl, rfl⟩; exact rfl
theorem c_law14_FlowHolds {a0 : Int} {a1 : Int} {a2 : Int} {a3 : Int} {a4 : Int} {a5 : Bool} {a6 : Rws} {a7 : Int} {a8 : Bool} {a9 : Rws} {Q : Bool → Prop} {R : AV → List AB → Prop} (h : (g_law14_FlowHolds a0 a1 a2 a3 a4 a5 a6 a7 a8 a9).run Q) (k : ∀ r, Q r → R (.bool (r)) ([])) : ACalls Try.prog tab 5 [.agg [.int .i64 (a0), .int .i64 (a1), .int .i64 (a2), .int .i64 (a3), .int .i64 (a4), .sl (a5) 45 (a6), .int .i64 (a7)], .sl (a8) 56 (a9)] [] R := by
  refine ACalls.out (fun r => .bool (r)) (fun r => []) (Q := Q) (ACalls.introX (mv := mv) tab_ok mixed_ (fn := Try.f5) (by kernel_rfl) rfl (by kernel_rfl) (by kernel_rfl) (leB rfl) ?_) (fun v => by first | exact ⟨rfl, leB rfl⟩ | (cases v <;> exact ⟨rfl, leB rfl⟩)) k
  conv => whnf
  refine ASeq.go tab_ok mixed_ ?_
  conv => whnf
  refine ACalls.inn (c_law14_fixed (W.bindE h) (fun v10 h => ?_)) ⟨rfl, rfl⟩
  conv => whnf
  refine XSplit.mk (fun e => ?_) (fun e => ?_)
  · replace h := XSplit.t h e
    conv => whnf
    refine ⟨_, Weak.a ?_, ?_, h⟩; (conv => whnf); exact ⟨rfl, rfl, rfl, rfl, rfl⟩; exact rfl
  · replace h := XSplit.f h e
    conv => whnf
    refine ACalls.inn (c_flow_Spread (W.bindE h) (fun v11 h => ?_)) ⟨rfl, rfl⟩
    conv => whnf
    refine ACalls.inn (c_plain_Tensors (W.bindE h) (fun v12 h => ?_)) ⟨rfl, rfl⟩
    conv => whnf
    refine ASeq.go tab_ok mixed_ ?_
    conv => whnf
    refine XSplit.mk (fun e => ?_) (fun e => ?_)
    · replace h := XSplit.t h e
      conv => whnf
      refine ⟨_, Weak.a ?_, ?_, h⟩; (conv => whnf); exact ⟨rfl, rfl, rfl, rfl, rfl⟩; exact rfl
    · replace h := XSplit.f h e
      conv => whnf
      refine ASeq.go tab_ok mixed_ ?_
      conv => whnf
      refine XSplit.mk (fun e => ?_) (fun e => ?_)
      · replace h := XSplit.t h e
        conv => whnf
        refine ⟨_, Weak.a ?_, ?_, h⟩; (conv => whnf); exact ⟨rfl, rfl, rfl, rfl, rfl⟩; exact rfl
      · replace h := XSplit.f h e
        conv => whnf
        refine ASeq.go tab_ok mixed_ ?_
        conv => whnf
        refine ALoop.ofW tab_ok mixed_ (fun v13 => ⟨[(4, .kb false), (5, .own 0), (7, .own 1), (57, .int .i64 ((↑(List.length v12.snd.snd.snd.snd) : Int))), (58, .int .i64 (v13))], [(0, .arr true 31 (v11.snd.snd.snd.fst) (v11.snd.snd.snd.snd)), (1, .arr true 52 (v12.snd.snd.snd.fst) (v12.snd.snd.snd.snd))], 2, [], []⟩) (sx (fun v14 => (.ret, ⟨[(4, .kb false)], [], 0, [], []⟩)) (fun v15 => (.exit 0, ⟨[(4, .kb false)], [], 0, [], []⟩))) (W.bindE h) (Weak.a ?_) (fun v13 J_ Q h => ?_) (fun v h => ?_)
        · conv => whnf
          exact ⟨rfl, rfl, rfl, rfl, rfl⟩
        · conv => whnf
          refine ASeq.go tab_ok mixed_ ?_
          conv => whnf
          refine XSplit.mk (fun e => ?_) (fun e => ?_)
          · replace h := XSplit.t h e
            conv => whnf
            refine ASeq.go tab_ok mixed_ ?_
            conv => whnf
            refine XNeed.mk (XNeed.c h) ?_; replace h := XNeed.x h
            conv => whnf
            refine ALoop.ofW tab_ok mixed_ (fun v16 => ⟨[(4, .kb false), (5, .own 0), (7, .own 1), (9, .int .i64 (v13)), (57, .int .i64 ((↑(List.length v12.snd.snd.snd.snd) : Int))), (58, .int .i64 (v13)), (59, .bool (decide (v13 < (↑(List.length v12.snd.snd.snd.snd) : Int)))), (60, .int .i64 (v13)), (61, .own 1), (62, .int .i64 (v13)), (63, .elt 1 (v13.toNat) 0), (64, .sl (rn v12.snd.snd.snd.snd v13.toNat 0) 56 (rr v12.snd.snd.snd.snd v13.toNat 0)), (65, .int .i64 ((↑(List.length (rr v12.snd.snd.snd.snd v13.toNat 0)) : Int))), (66, .int .i64 (v16))], [(0, .arr true 31 (v11.snd.snd.snd.fst) (v11.snd.snd.snd.snd)), (1, .arr true 52 (v12.snd.snd.snd.fst) (v12.snd.snd.snd.snd))], 2, [], []⟩) (sx (fun v17 => (.ret, ⟨[(4, .kb false)], [], 0, [], []⟩)) (fun v18 => (.exit 2, ⟨[(4, .kb false), (5, .own 0), (7, .own 1), (9, .int .i64 (v13)), (57, .int .i64 ((↑(List.length v12.snd.snd.snd.snd) : Int))), (58, .int .i64 (v13)), (59, .bool (decide (v13 < (↑(List.length v12.snd.snd.snd.snd) : Int)))), (60, .int .i64 (v13)), (61, .own 1), (62, .int .i64 (v13)), (63, .elt 1 (v13.toNat) 0), (64, .sl (rn v12.snd.snd.snd.snd v13.toNat 0) 56 (rr v12.snd.snd.snd.snd v13.toNat 0)), (65, .int .i64 ((↑(List.length (rr v12.snd.snd.snd.snd v13.toNat 0)) : Int))), (66, .int .i64 (v18.fst)), (67, .bool (v18.snd))], [(0, .arr true 31 (v11.snd.snd.snd.fst) (v11.snd.snd.snd.snd)), (1, .arr true 52 (v12.snd.snd.snd.fst) (v12.snd.snd.snd.snd))], 2, [], []⟩))) (W.bindE h) (Weak.a ?_) (fun v16 J_ Q h => ?_) (fun v h => ?_)
            · conv => whnf
              exact ⟨rfl, rfl, rfl, rfl, rfl⟩
            · conv => whnf
              refine ASeq.go tab_ok mixed_ ?_
              conv => whnf
              refine XSplit.mk (fun e => ?_) (fun e => ?_)
              · replace h := XSplit.t h e
                conv => whnf
                refine ASeq.go tab_ok mixed_ ?_
                conv => whnf
                refine XNeed.mk (XNeed.c h) ?_; replace h := XNeed.x h
                conv => whnf
                refine XNeed.mk (XNeed.c h) ?_; replace h := XNeed.x h
                conv => whnf
                refine ACalls.inn (c_span_Has (W.bindE h) (fun v19 h => ?_)) ⟨rfl, rfl⟩
                conv => whnf
                refine XSplit.mk (fun e => ?_) (fun e => ?_)
                · replace h := XSplit.t h e
                  conv => whnf
                  refine ⟨_, ?_, Weak.a ?_, h⟩; exact rfl; (conv => whnf); exact ⟨rfl, rfl, rfl, rfl, rfl⟩
                · replace h := XSplit.f h e
                  conv => whnf
                  refine ⟨_, Weak.a ?_, h⟩; (conv => whnf); exact ⟨rfl, rfl, rfl, rfl, rfl⟩
              · replace h := XSplit.f h e
                conv => whnf
                refine ⟨_, ?_, Weak.a ?_, h⟩; exact rfl; (conv => whnf); exact ⟨rfl, rfl, rfl, rfl, rfl⟩
            · rcases v with v17 | v18
              · conv => whnf
                refine ⟨_, ?_, Weak.a ?_, h⟩; exact rfl; (conv => whnf); exact ⟨rfl, rfl, rfl, rfl, rfl⟩
              · conv => whnf
                refine ⟨_, Weak.a ?_, h⟩; (conv => whnf); exact ⟨rfl, rfl, rfl, rfl, rfl⟩
          · replace h := XSplit.f h e
            conv => whnf
            refine ⟨_, ?_, Weak.a ?_, h⟩; exact rfl; (conv => whnf); exact ⟨rfl, rfl, rfl, rfl, rfl⟩
        · rcases v with v14 | v15
          · conv => whnf
            refine ⟨_, Weak.a ?_, ?_, h⟩; (conv => whnf); exact ⟨rfl, rfl, rfl, rfl, rfl⟩; exact rfl
          · conv => whnf
            refine ⟨_, Weak.a ?_, ?_, h⟩; (conv => whnf); exact ⟨rfl, rfl, rfl, rfl, rfl⟩; exact rfl
end Go.Proofs.Ytgeedlfnjneeiaa.V14
