/- The functions are their pure forms. -/
import Derived.Test.YtgeedlfnjneeiaaGreatVC0
set_option linter.unusedVariables false
set_option linter.unusedSimpArgs false
set_option maxRecDepth 100000
set_option maxHeartbeats 0
namespace Go.Proofs.YtgeedlfnjneeiaaGreat.V14z
open Go.Proofs Go.Proofs.YtgeedlfnjneeiaaGreat.VX
theorem c_ref06_count {a0 : Int} {a1 : Int} {a2 : Int} {Q : Int → Prop} {R : AV → List AB → Prop} (h : (g_ref06_count a0 a1 a2).run Q) (k : ∀ r, Q r → R (.int .i64 (r)) ([])) : ACalls Tryz.prog tab 101 [.int .i64 (a0), .int .i64 (a1), .int .i64 (a2)] [] R := by
  refine ACalls.out (fun r => .int .i64 (r)) (fun r => []) (Q := Q) (ACalls.introX (mv := mv) tab_ok mixed_ (fn := Tryz.f101) (by kernel_rfl) rfl (by kernel_rfl) (by kernel_rfl) (leB rfl) ?_) (fun v => by first | exact ⟨rfl, leB rfl⟩ | (cases v <;> exact ⟨rfl, leB rfl⟩)) k
  conv => whnf
  refine ASeq.go tab_ok mixed_ ?_
  conv => whnf
  refine ALoop.ofW tab_ok mixed_ (fun v2 => ⟨[(0, .int .i64 (a0)), (1, .int .i64 (a1)), (2, .int .i64 (a2)), (6, .int .i64 (0)), (7, .int .i64 (v2.fst)), (8, .int .i64 (v2.snd))], [], 0, [], []⟩) (fun v3 => (.exit 0, ⟨[(6, .int .i64 (0)), (7, .int .i64 (v3))], [], 0, [], []⟩)) (W.bindE h) (Weak.a ?_) (fun v2 J_ Q h => ?_) (fun v3 h => ?_)
  · conv => whnf
    exact ⟨rfl, rfl, rfl, rfl, rfl⟩
  · conv => whnf
    refine ASeq.go tab_ok mixed_ ?_
    conv => whnf
    refine XSplit.mk (fun e => ?_) (fun e => ?_)
    · replace h := XSplit.t h e
      conv => whnf
      refine ASeq.go tab_ok mixed_ ?_
      conv => whnf
      refine ⟨_, Weak.a ?_, h⟩; (conv => whnf); exact ⟨rfl, rfl, rfl, rfl, rfl⟩
    · replace h := XSplit.f h e
      conv => whnf
      refine ⟨_, ?_, Weak.a ?_, h⟩; exact rfl; (conv => whnf); exact ⟨rfl, rfl, rfl, rfl, rfl⟩
  · conv => whnf
    refine ⟨_, Weak.a ?_, ?_, h⟩; (conv => whnf); exact ⟨rfl, rfl, rfl, rfl, rfl⟩; exact rfl
theorem c_ref06_Out {a0 : Int} {a1 : Int} {a2 : Int} {a3 : Int} {a4 : Int} {a5 : Int} {a6 : Int} {a7 : Int} {a8 : Int} {a9 : Int} {a10 : Int} {Q : Int × Int × Int → Prop} {R : AV → List AB → Prop} (h : (g_ref06_Out a0 a1 a2 a3 a4 a5 a6 a7 a8 a9 a10).run Q) (k : ∀ r, Q r → R (.tup [.int .i64 (r.fst), .int .i64 (r.snd.fst), .int .i64 (r.snd.snd)]) ([])) : ACalls Tryz.prog tab 85 [.agg [.int .i64 (a0), .int .i64 (a1), .int .i64 (a2)], .agg [.int .i64 (a3), .int .i64 (a4), .int .i64 (a5), .int .i64 (a6), .int .i64 (a7), .int .i64 (a8), .int .i64 (a9), .int .i64 (a10)]] [] R := by
  refine ACalls.out (fun r => .tup [.int .i64 (r.fst), .int .i64 (r.snd.fst), .int .i64 (r.snd.snd)]) (fun r => []) (Q := Q) (ACalls.introX (mv := mv) tab_ok mixed_ (fn := Tryz.f85) (by kernel_rfl) rfl (by kernel_rfl) (by kernel_rfl) (leB rfl) ?_) (fun v => by first | exact ⟨rfl, leB rfl⟩ | (cases v <;> exact ⟨rfl, leB rfl⟩)) k
  conv => whnf
  refine ASeq.go tab_ok mixed_ ?_
  conv => whnf
  refine ACalls.inn (c_ref05_Valid (W.bindE h) (fun v4 h => ?_)) ⟨rfl, rfl⟩
  conv => whnf
  refine XSplit.mk (fun e => ?_) (fun e => ?_)
  · replace h := XSplit.t h e
    conv => whnf
    refine ⟨_, Weak.a ?_, ?_, h⟩; (conv => whnf); exact ⟨rfl, rfl, rfl, rfl, rfl⟩; exact rfl
  · replace h := XSplit.f h e
    conv => whnf
    refine ASeq.go tab_ok mixed_ ?_
    conv => whnf
    refine ACalls.inn (c_ref06_Valid (W.bindE h) (fun v5 h => ?_)) ⟨rfl, rfl⟩
    conv => whnf
    refine XSplit.mk (fun e => ?_) (fun e => ?_)
    · replace h := XSplit.t h e
      conv => whnf
      refine ⟨_, Weak.a ?_, ?_, h⟩; (conv => whnf); exact ⟨rfl, rfl, rfl, rfl, rfl⟩; exact rfl
    · replace h := XSplit.f h e
      conv => whnf
      refine ACalls.inn (c_ref06_count (W.bindE h) (fun v6 h => ?_)) ⟨rfl, rfl⟩
      conv => whnf
      refine ACalls.inn (c_ref06_count (W.bindE h) (fun v7 h => ?_)) ⟨rfl, rfl⟩
      conv => whnf
      refine ASeq.go tab_ok mixed_ ?_
      conv => whnf
      refine XSplit.mk (fun e => ?_) (fun e => ?_)
      · replace h := XSplit.t h e
        conv => whnf
        refine ⟨_, Weak.a ?_, ?_, h⟩; (conv => whnf); exact ⟨rfl, rfl, rfl, rfl, rfl⟩; exact rfl
      · replace h := XSplit.f h e
        conv => whnf
        refine ⟨_, Weak.a ?_, ?_, h⟩; (conv => whnf); exact ⟨rfl, rfl, rfl, rfl, rfl⟩; exact rfl
theorem c_ref08_Makes {a0 : Int} {a1 : Int} {a2 : Int} {a3 : Int} {a4 : Int} {a5 : Int} {a6 : Int} {a7 : Int} {a8 : Int} {a9 : Int} {a10 : Int} {a11 : Int} {a12 : Bool} {a13 : Rws} {a14 : Bool} {a15 : Rws} {a16 : Int} {a17 : Int} {a18 : Int} {a19 : Int} {a20 : Int} {a21 : Int} {a22 : Int} {a23 : Int} {a24 : Int} {a25 : Int} {a26 : Int} {Q : Int × Int × Int × Int → Prop} {R : AV → List AB → Prop} (h : (g_ref08_Makes a0 a1 a2 a3 a4 a5 a6 a7 a8 a9 a10 a11 a12 a13 a14 a15 a16 a17 a18 a19 a20 a21 a22 a23 a24 a25 a26).run Q) (k : ∀ r, Q r → R (.tup [.agg [.int .i64 (r.fst), .int .i64 (r.snd.fst), .int .i64 (r.snd.snd.fst)], .int .i64 (r.snd.snd.snd)]) ([])) : ACalls Tryz.prog tab 57 [.agg [.int .i64 (a0), .int .i64 (a1), .int .i64 (a2), .int .i64 (a3), .int .i64 (a4), .int .i64 (a5), .int .i64 (a6), .int .i64 (a7), .int .i64 (a8), .int .i64 (a9), .int .i64 (a10), .int .i64 (a11), .sl (a12) 81 (a13), .sl (a14) 21 (a15), .int .i64 (a16), .int .i64 (a17), .int .i64 (a18), .int .i64 (a19), .int .i64 (a20), .int .i64 (a21), .int .i64 (a22), .int .i64 (a23)], .agg [.int .i64 (a24), .int .i64 (a25), .int .i64 (a26)]] [] R := by
  refine ACalls.out (fun r => .tup [.agg [.int .i64 (r.fst), .int .i64 (r.snd.fst), .int .i64 (r.snd.snd.fst)], .int .i64 (r.snd.snd.snd)]) (fun r => []) (Q := Q) (ACalls.introX (mv := mv) tab_ok mixed_ (fn := Tryz.f57) (by kernel_rfl) rfl (by kernel_rfl) (by kernel_rfl) (leB rfl) ?_) (fun v => by first | exact ⟨rfl, leB rfl⟩ | (cases v <;> exact ⟨rfl, leB rfl⟩)) k
  conv => whnf
  refine ASeq.joinW tab_ok mixed_ (fun v4 => ⟨[(2, .ptr 0 0), (3, .ptr 1 0), (4, .ptr 2 0), (5, .int .i64 (0)), (6, .ptr 3 0)], [(0, .box 51 [.int .i64 (a0), .int .i64 (a1), .int .i64 (a2), .int .i64 (a3), .int .i64 (a4), .int .i64 (a5), .int .i64 (a6), .int .i64 (a7), .int .i64 (a8), .int .i64 (a9), .int .i64 (a10), .int .i64 (a11), .sl (a12) 81 (a13), .sl (a14) 21 (a15), .int .i64 (a16), .int .i64 (a17), .int .i64 (a18), .int .i64 (a19), .int .i64 (a20), .int .i64 (a21), .int .i64 (a22), .int .i64 (a23)]), (1, .box 23 [.int .i64 (a24), .int .i64 (a25), .int .i64 (a26)]), (2, .box 23 [.int .i64 (0), .int .i64 (0), .int .i64 (0)]), (3, .box 23 [.int .i64 (v4.fst), .int .i64 (v4.snd.fst), .int .i64 (v4.snd.snd)])], 4, [], []⟩) h (fun Q h => ?_) (fun v4 h => ?_)
  · conv => whnf
    refine XSplit.mk (fun e => ?_) (fun e => ?_)
    · replace h := XSplit.t h e
      conv => whnf
      refine ⟨_, Weak.a ?_, h⟩; (conv => whnf); exact ⟨rfl, rfl, rfl, rfl, rfl⟩
    · replace h := XSplit.f h e
      conv => whnf
      refine ⟨_, Weak.a ?_, h⟩; (conv => whnf); exact ⟨rfl, rfl, rfl, rfl, rfl⟩
  · conv => whnf
    refine ASeq.joinE tab_ok mixed_ (fun v5 => ⟨[(4, .ptr 0 0), (5, .int .i64 (0)), (6, .ptr 1 0)], [(0, .box 23 [.int .i64 (0), .int .i64 (0), .int .i64 (0)]), (1, .box 23 [.int .i64 (v5.fst), .int .i64 (v5.snd.fst), .int .i64 (v5.snd.snd)])], 2, [], []⟩) h (fun Q h => ?_) (fun v5 h => ?_)
    · conv => whnf
      refine ACalls.inn (c_ref08_Slides (W.bindE h) (fun v6 h => ?_)) ⟨rfl, rfl⟩
      conv => whnf
      refine XSplit.mk (fun e => ?_) (fun e => ?_)
      · replace h := XSplit.t h e
        conv => whnf
        refine ACalls.inn (c_ref06_Out (W.bindE h) (fun v7 h => ?_)) ⟨rfl, rfl⟩
        conv => whnf
        refine ASeq.go tab_ok mixed_ ?_
        conv => whnf
        refine XSplit.mk (fun e => ?_) (fun e => ?_)
        · replace h := XSplit.t h e
          conv => whnf
          refine ⟨_, Weak.a ?_, ?_, h⟩; (conv => whnf); exact ⟨rfl, rfl, rfl, rfl, rfl⟩; exact rfl
        · replace h := XSplit.f h e
          conv => whnf
          refine XSplit.mk (fun e => ?_) (fun e => ?_)
          · replace h := XSplit.t h e
            conv => whnf
            refine ⟨_, Weak.a ?_, h⟩; (conv => whnf); exact ⟨rfl, rfl, rfl, rfl, rfl⟩
          · replace h := XSplit.f h e
            conv => whnf
            refine ⟨_, Weak.a ?_, h⟩; (conv => whnf); exact ⟨rfl, rfl, rfl, rfl, rfl⟩
      · replace h := XSplit.f h e
        conv => whnf
        refine ⟨_, Weak.a ?_, h⟩; (conv => whnf); exact ⟨rfl, rfl, rfl, rfl, rfl⟩
    · conv => whnf
      refine ⟨_, Weak.a ?_, ?_, h⟩; (conv => whnf); exact ⟨rfl, rfl, rfl, rfl, rfl⟩; exact rfl
theorem c_ref08_Reduces {a0 : Int} {Q : Bool → Prop} {R : AV → List AB → Prop} (h : (g_ref08_Reduces a0).run Q) (k : ∀ r, Q r → R (.bool (r)) ([])) : ACalls Tryz.prog tab 32 [.int .i64 (a0)] [] R := by
  refine ACalls.out (fun r => .bool (r)) (fun r => []) (Q := Q) (ACalls.introX (mv := mv) tab_ok mixed_ (fn := Tryz.f32) (by kernel_rfl) rfl (by kernel_rfl) (by kernel_rfl) (leB rfl) ?_) (fun v => by first | exact ⟨rfl, leB rfl⟩ | (cases v <;> exact ⟨rfl, leB rfl⟩)) k
  conv => whnf
  refine ⟨_, Weak.a ?_, ?_, h⟩; (conv => whnf); exact ⟨rfl, rfl, rfl, rfl, rfl⟩; exact rfl
theorem c_ref08_Length {a0 : Int} {a1 : Int} {a2 : Int} {a3 : Int} {a4 : Int} {a5 : Int} {a6 : Int} {a7 : Int} {a8 : Int} {a9 : Int} {a10 : Int} {a11 : Int} {a12 : Bool} {a13 : Rws} {a14 : Bool} {a15 : Rws} {a16 : Int} {a17 : Int} {a18 : Int} {a19 : Int} {a20 : Int} {a21 : Int} {a22 : Int} {a23 : Int} {a24 : Int} {a25 : Int} {a26 : Int} {Q : Int → Prop} {R : AV → List AB → Prop} (h : (g_ref08_Length a0 a1 a2 a3 a4 a5 a6 a7 a8 a9 a10 a11 a12 a13 a14 a15 a16 a17 a18 a19 a20 a21 a22 a23 a24 a25 a26).run Q) (k : ∀ r, Q r → R (.int .i64 (r)) ([])) : ACalls Tryz.prog tab 58 [.agg [.int .i64 (a0), .int .i64 (a1), .int .i64 (a2), .int .i64 (a3), .int .i64 (a4), .int .i64 (a5), .int .i64 (a6), .int .i64 (a7), .int .i64 (a8), .int .i64 (a9), .int .i64 (a10), .int .i64 (a11), .sl (a12) 81 (a13), .sl (a14) 21 (a15), .int .i64 (a16), .int .i64 (a17), .int .i64 (a18), .int .i64 (a19), .int .i64 (a20), .int .i64 (a21), .int .i64 (a22), .int .i64 (a23)], .agg [.int .i64 (a24), .int .i64 (a25), .int .i64 (a26)]] [] R := by
  refine ACalls.out (fun r => .int .i64 (r)) (fun r => []) (Q := Q) (ACalls.introX (mv := mv) tab_ok mixed_ (fn := Tryz.f58) (by kernel_rfl) rfl (by kernel_rfl) (by kernel_rfl) (leB rfl) ?_) (fun v => by first | exact ⟨rfl, leB rfl⟩ | (cases v <;> exact ⟨rfl, leB rfl⟩)) k
  conv => whnf
  refine ASeq.go tab_ok mixed_ ?_
  conv => whnf
  refine XSplit.mk (fun e => ?_) (fun e => ?_)
  · replace h := XSplit.t h e
    conv => whnf
    refine ⟨_, Weak.a ?_, ?_, h⟩; (conv => whnf); exact ⟨rfl, rfl, rfl, rfl, rfl⟩; exact rfl
  · replace h := XSplit.f h e
    conv => whnf
    refine XSplit.mk (fun e => ?_) (fun e => ?_)
    · replace h := XSplit.t h e
      conv => whnf
      refine ⟨_, Weak.a ?_, ?_, h⟩; (conv => whnf); exact ⟨rfl, rfl, rfl, rfl, rfl⟩; exact rfl
    · replace h := XSplit.f h e
      conv => whnf
      refine ⟨_, Weak.a ?_, ?_, h⟩; (conv => whnf); exact ⟨rfl, rfl, rfl, rfl, rfl⟩; exact rfl
theorem c_ref08_Lists {a0 : Int} {a1 : Int} {a2 : Int} {a3 : Int} {a4 : Int} {a5 : Int} {a6 : Int} {a7 : Int} {a8 : Int} {a9 : Int} {a10 : Int} {a11 : Int} {a12 : Bool} {a13 : Rws} {a14 : Bool} {a15 : Rws} {a16 : Int} {a17 : Int} {a18 : Int} {a19 : Int} {a20 : Int} {a21 : Int} {a22 : Int} {a23 : Int} {a24 : Int} {a25 : Int} {a26 : Int} {Q : Int × Int → Prop} {R : AV → List AB → Prop} (h : (g_ref08_Lists a0 a1 a2 a3 a4 a5 a6 a7 a8 a9 a10 a11 a12 a13 a14 a15 a16 a17 a18 a19 a20 a21 a22 a23 a24 a25 a26).run Q) (k : ∀ r, Q r → R (.tup [.int .i64 (r.fst), .int .i64 (r.snd)]) ([])) : ACalls Tryz.prog tab 59 [.agg [.int .i64 (a0), .int .i64 (a1), .int .i64 (a2), .int .i64 (a3), .int .i64 (a4), .int .i64 (a5), .int .i64 (a6), .int .i64 (a7), .int .i64 (a8), .int .i64 (a9), .int .i64 (a10), .int .i64 (a11), .sl (a12) 81 (a13), .sl (a14) 21 (a15), .int .i64 (a16), .int .i64 (a17), .int .i64 (a18), .int .i64 (a19), .int .i64 (a20), .int .i64 (a21), .int .i64 (a22), .int .i64 (a23)], .agg [.int .i64 (a24), .int .i64 (a25), .int .i64 (a26)]] [] R := by
  refine ACalls.out (fun r => .tup [.int .i64 (r.fst), .int .i64 (r.snd)]) (fun r => []) (Q := Q) (ACalls.introX (mv := mv) tab_ok mixed_ (fn := Tryz.f59) (by kernel_rfl) rfl (by kernel_rfl) (by kernel_rfl) (leB rfl) ?_) (fun v => by first | exact ⟨rfl, leB rfl⟩ | (cases v <;> exact ⟨rfl, leB rfl⟩)) k
  conv => whnf
  refine ASeq.go tab_ok mixed_ ?_
  conv => whnf
  refine ASeq.joinW tab_ok mixed_ (fun v3 => ⟨[(2, .ptr 0 0), (3, .ptr 1 0), (4, .int .i64 (0)), (5, .int .i64 (0)), (7, .int .i64 (a0)), (8, .bool (v3))], [(0, .box 51 [.int .i64 (a0), .int .i64 (a1), .int .i64 (a2), .int .i64 (a3), .int .i64 (a4), .int .i64 (a5), .int .i64 (a6), .int .i64 (a7), .int .i64 (a8), .int .i64 (a9), .int .i64 (a10), .int .i64 (a11), .sl (a12) 81 (a13), .sl (a14) 21 (a15), .int .i64 (a16), .int .i64 (a17), .int .i64 (a18), .int .i64 (a19), .int .i64 (a20), .int .i64 (a21), .int .i64 (a22), .int .i64 (a23)]), (1, .box 23 [.int .i64 (a24), .int .i64 (a25), .int .i64 (a26)])], 2, [], []⟩) h (fun Q h => ?_) (fun v3 h => ?_)
  · conv => whnf
    refine XSplit.mk (fun e => ?_) (fun e => ?_)
    · replace h := XSplit.t h e
      conv => whnf
      refine ⟨_, Weak.a ?_, h⟩; (conv => whnf); exact ⟨rfl, rfl, rfl, rfl, rfl⟩
    · replace h := XSplit.f h e
      conv => whnf
      refine ⟨_, Weak.a ?_, h⟩; (conv => whnf); exact ⟨rfl, rfl, rfl, rfl, rfl⟩
  · conv => whnf
    refine XSplit.mk (fun e => ?_) (fun e => ?_)
    · replace h := XSplit.t h e
      conv => whnf
      refine XDraw.d [0, 1, 2, 3, 6, 7, 4, 5, 8, 9] [[], [], [], [], [], [], [], [], [], []] (by decide +kernel) ?_
      conv => whnf
      refine ACalls.inn (c_ref08_Length (W.bindE h) (fun v4 h => ?_)) ⟨rfl, rfl⟩
      conv => whnf
      refine ⟨_, Weak.a ?_, ?_, h⟩; (conv => whnf); exact ⟨rfl, rfl, rfl, rfl, rfl⟩; exact rfl
    · replace h := XSplit.f h e
      conv => whnf
      refine XSplit.mk (fun e => ?_) (fun e => ?_)
      · replace h := XSplit.t h e
        conv => whnf
        refine XDraw.d [0, 1, 2, 3, 6, 7, 4, 5, 8, 9] [[], [], [], [], [], [], [], [], [], []] (by decide +kernel) ?_
        conv => whnf
        refine ACalls.inn (c_ref08_Length (W.bindE h) (fun v5 h => ?_)) ⟨rfl, rfl⟩
        conv => whnf
        refine ⟨_, Weak.a ?_, ?_, h⟩; (conv => whnf); exact ⟨rfl, rfl, rfl, rfl, rfl⟩; exact rfl
      · replace h := XSplit.f h e
        conv => whnf
        refine ⟨_, Weak.a ?_, ?_, h⟩; (conv => whnf); exact ⟨rfl, rfl, rfl, rfl, rfl⟩; exact rfl
theorem c_ref02_Valid {a0 : Int} {a1 : Int} {Q : Bool → Prop} {R : AV → List AB → Prop} (h : (g_ref02_Valid a0 a1).run Q) (k : ∀ r, Q r → R (.bool (r)) ([])) : ACalls Tryz.prog tab 61 [.int .i64 (a0), .int .i64 (a1)] [] R := by
  refine ACalls.out (fun r => .bool (r)) (fun r => []) (Q := Q) (ACalls.introX (mv := mv) tab_ok mixed_ (fn := Tryz.f61) (by kernel_rfl) rfl (by kernel_rfl) (by kernel_rfl) (leB rfl) ?_) (fun v => by first | exact ⟨rfl, leB rfl⟩ | (cases v <;> exact ⟨rfl, leB rfl⟩)) k
  conv => whnf
  refine ⟨_, Weak.a ?_, ?_, h⟩; (conv => whnf); exact ⟨rfl, rfl, rfl, rfl, rfl⟩; exact rfl
theorem c_ref08_one {a0 : Int} {a1 : Int} {a2 : Int} {a3 : Int} {a4 : Int} {a5 : Int} {a6 : Int} {a7 : Int} {a8 : Int} {a9 : Int} {a10 : Int} {a11 : Int} {a12 : Bool} {a13 : Rws} {a14 : Bool} {a15 : Rws} {a16 : Int} {a17 : Int} {a18 : Int} {a19 : Int} {a20 : Int} {a21 : Int} {a22 : Int} {a23 : Int} {a24 : Int} {a25 : Bool} {a26 : Rws} {Q : Int × Int × Int × Int → Prop} {R : AV → List AB → Prop} (h : (g_ref08_one a0 a1 a2 a3 a4 a5 a6 a7 a8 a9 a10 a11 a12 a13 a14 a15 a16 a17 a18 a19 a20 a21 a22 a23 a24 a25 a26).run Q) (k : ∀ r, Q r → R (.tup [.agg [.int .i64 (r.fst), .int .i64 (r.snd.fst), .int .i64 (r.snd.snd.fst)], .int .i64 (r.snd.snd.snd)]) ([])) : ACalls Tryz.prog tab 30 [.agg [.int .i64 (a0), .int .i64 (a1), .int .i64 (a2), .int .i64 (a3), .int .i64 (a4), .int .i64 (a5), .int .i64 (a6), .int .i64 (a7), .int .i64 (a8), .int .i64 (a9), .int .i64 (a10), .int .i64 (a11), .sl (a12) 81 (a13), .sl (a14) 21 (a15), .int .i64 (a16), .int .i64 (a17), .int .i64 (a18), .int .i64 (a19), .int .i64 (a20), .int .i64 (a21), .int .i64 (a22), .int .i64 (a23)], .int .i64 (a24), .sl (a25) 23 (a26)] [] R := by
  refine ACalls.out (fun r => .tup [.agg [.int .i64 (r.fst), .int .i64 (r.snd.fst), .int .i64 (r.snd.snd.fst)], .int .i64 (r.snd.snd.snd)]) (fun r => []) (Q := Q) (ACalls.introX (mv := mv) tab_ok mixed_ (fn := Tryz.f30) (by kernel_rfl) rfl (by kernel_rfl) (by kernel_rfl) (leB rfl) ?_) (fun v => by first | exact ⟨rfl, leB rfl⟩ | (cases v <;> exact ⟨rfl, leB rfl⟩)) k
  conv => whnf
  refine ASeq.go tab_ok mixed_ ?_
  conv => whnf
  refine XSplit.mk (fun e => ?_) (fun e => ?_)
  · replace h := XSplit.t h e
    conv => whnf
    refine ⟨_, Weak.a ?_, ?_, h⟩; (conv => whnf); exact ⟨rfl, rfl, rfl, rfl, rfl⟩; exact rfl
  · replace h := XSplit.f h e
    conv => whnf
    refine ASeq.go tab_ok mixed_ ?_
    conv => whnf
    refine XSplit.mk (fun e => ?_) (fun e => ?_)
    · replace h := XSplit.t h e
      conv => whnf
      refine ⟨_, Weak.a ?_, ?_, h⟩; (conv => whnf); exact ⟨rfl, rfl, rfl, rfl, rfl⟩; exact rfl
    · replace h := XSplit.f h e
      conv => whnf
      refine ASeq.go tab_ok mixed_ ?_
      conv => whnf
      refine ACalls.inn (c_ref08_spare (W.bindE h) (fun v18 h => ?_)) ⟨rfl, rfl⟩
      conv => whnf
      refine XSplit.mk (fun e => ?_) (fun e => ?_)
      · replace h := XSplit.t h e
        conv => whnf
        refine ⟨_, Weak.a ?_, ?_, h⟩; (conv => whnf); exact ⟨rfl, rfl, rfl, rfl, rfl⟩; exact rfl
      · replace h := XSplit.f h e
        conv => whnf
        refine ASeq.go tab_ok mixed_ ?_
        conv => whnf
        refine XSplit.mk (fun e => ?_) (fun e => ?_)
        · replace h := XSplit.t h e
          conv => whnf
          refine ⟨_, Weak.a ?_, ?_, h⟩; (conv => whnf); exact ⟨rfl, rfl, rfl, rfl, rfl⟩; exact rfl
        · replace h := XSplit.f h e
          conv => whnf
          refine XNeed.mk (XNeed.c h) ?_; replace h := XNeed.x h
          conv => whnf
          refine ACalls.inn (c_ref08_Makes (W.bindE h) (fun v19 h => ?_)) ⟨rfl, rfl⟩
          conv => whnf
          refine ASeq.go tab_ok mixed_ ?_
          conv => whnf
          refine XSplit.mk (fun e => ?_) (fun e => ?_)
          · replace h := XSplit.t h e
            conv => whnf
            refine ⟨_, Weak.a ?_, ?_, h⟩; (conv => whnf); exact ⟨rfl, rfl, rfl, rfl, rfl⟩; exact rfl
          · replace h := XSplit.f h e
            conv => whnf
            refine ASeq.go tab_ok mixed_ ?_
            conv => whnf
            refine ASeq.joinW tab_ok mixed_ (fun v20 => ⟨[(3, .ptr 0 0), (6, .ptr 1 0), (7, .int .i64 (0)), (8, .ptr 2 0), (9, .ptr 3 0), (97, .bool (v20))], [(0, .box 51 [.int .i64 (a0), .int .i64 (a1), .int .i64 (a2), .int .i64 (a3), .int .i64 (a4), .int .i64 (a5), .int .i64 (a6), .int .i64 (a7), .int .i64 (a8), .int .i64 (a9), .int .i64 (a10), .int .i64 (a11), .sl (a12) 81 (a13), .sl (a14) 21 (a15), .int .i64 (a16), .int .i64 (a17), .int .i64 (a18), .int .i64 (a19), .int .i64 (a20), .int .i64 (a21), .int .i64 (a22), .int .i64 (a23)]), (1, .box 23 [.int .i64 (0), .int .i64 (0), .int .i64 (0)]), (2, .box 23 [.int .i64 (ri a26 a1.toNat 0), .int .i64 (ri a26 a1.toNat 1), .int .i64 (ri a26 a1.toNat 2)]), (3, .box 23 [.int .i64 (v19.fst), .int .i64 (v19.snd.fst), .int .i64 (v19.snd.snd.fst)])], 4, [], []⟩) h (fun Q h => ?_) (fun v20 h => ?_)
            · conv => whnf
              refine XDraw.d [0, 1, 2, 3, 4, 5, 6, 7, 8, 9, 10, 11, 12, 13, 14, 15, 16] [[], [], [], [], [], [], [], [], [], [], [], [], [], [], [], [], []] (by decide +kernel) ?_
              conv => whnf
              refine XNeed.mk (XNeed.c h) ?_; replace h := XNeed.x h
              conv => whnf
              refine XSplit.mk (fun e => ?_) (fun e => ?_)
              · replace h := XSplit.t h e
                conv => whnf
                refine ⟨_, Weak.a ?_, h⟩; (conv => whnf); exact ⟨rfl, rfl, rfl, rfl, rfl⟩
              · replace h := XSplit.f h e
                conv => whnf
                refine ACalls.inn (c_ref05_Valid (W.bindE h) (fun v21 h => ?_)) ⟨rfl, rfl⟩
                conv => whnf
                refine ⟨_, Weak.a ?_, h⟩; (conv => whnf); exact ⟨rfl, rfl, rfl, rfl, rfl⟩
            · conv => whnf
              refine XSplit.mk (fun e => ?_) (fun e => ?_)
              · replace h := XSplit.t h e
                conv => whnf
                refine ⟨_, Weak.a ?_, ?_, h⟩; (conv => whnf); exact ⟨rfl, rfl, rfl, rfl, rfl⟩; exact rfl
              · replace h := XSplit.f h e
                conv => whnf
                refine ASeq.go tab_ok mixed_ ?_
                conv => whnf
                refine ASeq.joinW tab_ok mixed_ (fun v22 => ⟨[(3, .ptr 0 0), (6, .ptr 1 0), (7, .int .i64 (0)), (8, .ptr 2 0), (9, .ptr 3 0), (107, .bool (v22))], [(0, .box 51 [.int .i64 (a0), .int .i64 (a1), .int .i64 (a2), .int .i64 (a3), .int .i64 (a4), .int .i64 (a5), .int .i64 (a6), .int .i64 (a7), .int .i64 (a8), .int .i64 (a9), .int .i64 (a10), .int .i64 (a11), .sl (a12) 81 (a13), .sl (a14) 21 (a15), .int .i64 (a16), .int .i64 (a17), .int .i64 (a18), .int .i64 (a19), .int .i64 (a20), .int .i64 (a21), .int .i64 (a22), .int .i64 (a23)]), (1, .box 23 [.int .i64 (0), .int .i64 (0), .int .i64 (0)]), (2, .box 23 [.int .i64 (ri a26 a1.toNat 0), .int .i64 (ri a26 a1.toNat 1), .int .i64 (ri a26 a1.toNat 2)]), (3, .box 23 [.int .i64 (v19.fst), .int .i64 (v19.snd.fst), .int .i64 (v19.snd.snd.fst)])], 4, [], []⟩) h (fun Q h => ?_) (fun v22 h => ?_)
                · conv => whnf
                  refine ACalls.inn (c_ref08_Reduces (W.bindE h) (fun v23 h => ?_)) ⟨rfl, rfl⟩
                  conv => whnf
                  refine XSplit.mk (fun e => ?_) (fun e => ?_)
                  · replace h := XSplit.t h e
                    conv => whnf
                    refine ACalls.inn (c_ref08_Length (W.bindE h) (fun v24 h => ?_)) ⟨rfl, rfl⟩
                    conv => whnf
                    refine ⟨_, Weak.a ?_, h⟩; (conv => whnf); exact ⟨rfl, rfl, rfl, rfl, rfl⟩
                  · replace h := XSplit.f h e
                    conv => whnf
                    refine ⟨_, Weak.a ?_, h⟩; (conv => whnf); exact ⟨rfl, rfl, rfl, rfl, rfl⟩
                · conv => whnf
                  refine XSplit.mk (fun e => ?_) (fun e => ?_)
                  · replace h := XSplit.t h e
                    conv => whnf
                    refine ⟨_, Weak.a ?_, ?_, h⟩; (conv => whnf); exact ⟨rfl, rfl, rfl, rfl, rfl⟩; exact rfl
                  · replace h := XSplit.f h e
                    conv => whnf
                    refine ACalls.inn (c_ref08_Lists (W.bindE h) (fun v25 h => ?_)) ⟨rfl, rfl⟩
                    conv => whnf
                    refine ASeq.go tab_ok mixed_ ?_
                    conv => whnf
                    refine XSplit.mk (fun e => ?_) (fun e => ?_)
                    · replace h := XSplit.t h e
                      conv => whnf
                      refine ⟨_, Weak.a ?_, ?_, h⟩; (conv => whnf); exact ⟨rfl, rfl, rfl, rfl, rfl⟩; exact rfl
                    · replace h := XSplit.f h e
                      conv => whnf
                      refine ASeq.go tab_ok mixed_ ?_
                      conv => whnf
                      refine ASeq.joinW tab_ok mixed_ (fun v26 => ⟨[(3, .ptr 0 0), (6, .ptr 1 0), (7, .int .i64 (0)), (9, .ptr 2 0), (155, .bool (v26))], [(0, .box 51 [.int .i64 (a0), .int .i64 (a1), .int .i64 (a2), .int .i64 (a3), .int .i64 (a4), .int .i64 (a5), .int .i64 (a6), .int .i64 (a7), .int .i64 (a8), .int .i64 (a9), .int .i64 (a10), .int .i64 (a11), .sl (a12) 81 (a13), .sl (a14) 21 (a15), .int .i64 (a16), .int .i64 (a17), .int .i64 (a18), .int .i64 (a19), .int .i64 (a20), .int .i64 (a21), .int .i64 (a22), .int .i64 (a23)]), (1, .box 23 [.int .i64 (0), .int .i64 (0), .int .i64 (0)]), (2, .box 23 [.int .i64 (v19.fst), .int .i64 (v19.snd.fst), .int .i64 (v19.snd.snd.fst)])], 3, [], []⟩) h (fun Q h => ?_) (fun v26 h => ?_)
                      · conv => whnf
                        refine ACalls.inn (c_ref08_Scales (W.bindE h) (fun v27 h => ?_)) ⟨rfl, rfl⟩
                        conv => whnf
                        refine XSplit.mk (fun e => ?_) (fun e => ?_)
                        · replace h := XSplit.t h e
                          conv => whnf
                          refine ACalls.inn (c_ref02_Valid (W.bindE h) (fun v28 h => ?_)) ⟨rfl, rfl⟩
                          conv => whnf
                          refine XSplit.mk (fun e => ?_) (fun e => ?_)
                          · replace h := XSplit.t h e
                            conv => whnf
                            refine ⟨_, Weak.a ?_, h⟩; (conv => whnf); exact ⟨rfl, rfl, rfl, rfl, rfl⟩
                          · replace h := XSplit.f h e
                            conv => whnf
                            refine XSplit.mk (fun e => ?_) (fun e => ?_)
                            · replace h := XSplit.t h e
                              conv => whnf
                              refine ACalls.inn (c_ref02_Valid (W.bindE h) (fun v29 h => ?_)) ⟨rfl, rfl⟩
                              conv => whnf
                              refine ⟨_, Weak.a ?_, h⟩; (conv => whnf); exact ⟨rfl, rfl, rfl, rfl, rfl⟩
                            · replace h := XSplit.f h e
                              conv => whnf
                              refine ⟨_, Weak.a ?_, h⟩; (conv => whnf); exact ⟨rfl, rfl, rfl, rfl, rfl⟩
                        · replace h := XSplit.f h e
                          conv => whnf
                          refine XSplit.mk (fun e => ?_) (fun e => ?_)
                          · replace h := XSplit.t h e
                            conv => whnf
                            refine ACalls.inn (c_ref02_Valid (W.bindE h) (fun v30 h => ?_)) ⟨rfl, rfl⟩
                            conv => whnf
                            refine ⟨_, Weak.a ?_, h⟩; (conv => whnf); exact ⟨rfl, rfl, rfl, rfl, rfl⟩
                          · replace h := XSplit.f h e
                            conv => whnf
                            refine ⟨_, Weak.a ?_, h⟩; (conv => whnf); exact ⟨rfl, rfl, rfl, rfl, rfl⟩
                      · conv => whnf
                        refine XSplit.mk (fun e => ?_) (fun e => ?_)
                        · replace h := XSplit.t h e
                          conv => whnf
                          refine ⟨_, Weak.a ?_, ?_, h⟩; (conv => whnf); exact ⟨rfl, rfl, rfl, rfl, rfl⟩; exact rfl
                        · replace h := XSplit.f h e
                          conv => whnf
                          refine ASeq.go tab_ok mixed_ ?_
                          conv => whnf
                          refine ASeq.joinW tab_ok mixed_ (fun v31 => ⟨[(6, .ptr 0 0), (7, .int .i64 (0)), (9, .ptr 1 0), (185, .bool (v31))], [(0, .box 23 [.int .i64 (0), .int .i64 (0), .int .i64 (0)]), (1, .box 23 [.int .i64 (v19.fst), .int .i64 (v19.snd.fst), .int .i64 (v19.snd.snd.fst)])], 2, [], []⟩) h (fun Q h => ?_) (fun v31 h => ?_)
                          · conv => whnf
                            refine ACalls.inn (c_ref08_values (W.bindE h) (fun v32 h => ?_)) ⟨rfl, rfl⟩
                            conv => whnf
                            refine XSplit.mk (fun e => ?_) (fun e => ?_)
                            · replace h := XSplit.t h e
                              conv => whnf
                              refine ⟨_, Weak.a ?_, h⟩; (conv => whnf); exact ⟨rfl, rfl, rfl, rfl, rfl⟩
                            · replace h := XSplit.f h e
                              conv => whnf
                              refine ACalls.inn (c_ref08_values (W.bindE h) (fun v33 h => ?_)) ⟨rfl, rfl⟩
                              conv => whnf
                              refine XSplit.mk (fun e => ?_) (fun e => ?_)
                              · replace h := XSplit.t h e
                                conv => whnf
                                refine ⟨_, Weak.a ?_, h⟩; (conv => whnf); exact ⟨rfl, rfl, rfl, rfl, rfl⟩
                              · replace h := XSplit.f h e
                                conv => whnf
                                refine ACalls.inn (c_ref08_values (W.bindE h) (fun v34 h => ?_)) ⟨rfl, rfl⟩
                                conv => whnf
                                refine XSplit.mk (fun e => ?_) (fun e => ?_)
                                · replace h := XSplit.t h e
                                  conv => whnf
                                  refine ⟨_, Weak.a ?_, h⟩; (conv => whnf); exact ⟨rfl, rfl, rfl, rfl, rfl⟩
                                · replace h := XSplit.f h e
                                  conv => whnf
                                  refine ACalls.inn (c_ref08_values (W.bindE h) (fun v35 h => ?_)) ⟨rfl, rfl⟩
                                  conv => whnf
                                  refine ⟨_, Weak.a ?_, h⟩; (conv => whnf); exact ⟨rfl, rfl, rfl, rfl, rfl⟩
                          · conv => whnf
                            refine XSplit.mk (fun e => ?_) (fun e => ?_)
                            · replace h := XSplit.t h e
                              conv => whnf
                              refine ⟨_, Weak.a ?_, ?_, h⟩; (conv => whnf); exact ⟨rfl, rfl, rfl, rfl, rfl⟩; exact rfl
                            · replace h := XSplit.f h e
                              conv => whnf
                              refine ⟨_, Weak.a ?_, ?_, h⟩; (conv => whnf); exact ⟨rfl, rfl, rfl, rfl, rfl⟩; exact rfl
theorem c_ref08_Labour {a0 : Int} {a1 : Int} {a2 : Int} {a3 : Int} {a4 : Int} {a5 : Int} {a6 : Int} {a7 : Int} {a8 : Int} {a9 : Int} {a10 : Int} {a11 : Int} {a12 : Bool} {a13 : Rws} {a14 : Bool} {a15 : Rws} {a16 : Int} {a17 : Int} {a18 : Int} {a19 : Int} {a20 : Int} {a21 : Int} {a22 : Int} {a23 : Int} {a24 : Int} {a25 : Int} {a26 : Int} {a27 : Int} {a28 : Int} {a29 : Int} {Q : Int → Prop} {R : AV → List AB → Prop} (h : (g_ref08_Labour a0 a1 a2 a3 a4 a5 a6 a7 a8 a9 a10 a11 a12 a13 a14 a15 a16 a17 a18 a19 a20 a21 a22 a23 a24 a25 a26 a27 a28 a29).run Q) (k : ∀ r, Q r → R (.int .i64 (r)) ([])) : ACalls Tryz.prog tab 31 [.agg [.int .i64 (a0), .int .i64 (a1), .int .i64 (a2), .int .i64 (a3), .int .i64 (a4), .int .i64 (a5), .int .i64 (a6), .int .i64 (a7), .int .i64 (a8), .int .i64 (a9), .int .i64 (a10), .int .i64 (a11), .sl (a12) 81 (a13), .sl (a14) 21 (a15), .int .i64 (a16), .int .i64 (a17), .int .i64 (a18), .int .i64 (a19), .int .i64 (a20), .int .i64 (a21), .int .i64 (a22), .int .i64 (a23)], .agg [.int .i64 (a24), .int .i64 (a25), .int .i64 (a26)], .agg [.int .i64 (a27), .int .i64 (a28), .int .i64 (a29)]] [] R := by
  refine ACalls.out (fun r => .int .i64 (r)) (fun r => []) (Q := Q) (ACalls.introX (mv := mv) tab_ok mixed_ (fn := Tryz.f31) (by kernel_rfl) rfl (by kernel_rfl) (by kernel_rfl) (leB rfl) ?_) (fun v => by first | exact ⟨rfl, leB rfl⟩ | (cases v <;> exact ⟨rfl, leB rfl⟩)) k
  conv => whnf
  refine ASeq.go tab_ok mixed_ ?_
  conv => whnf
  refine ACalls.inn (c_ref08_Reduces (W.bindE h) (fun v2 h => ?_)) ⟨rfl, rfl⟩
  conv => whnf
  refine XSplit.mk (fun e => ?_) (fun e => ?_)
  · replace h := XSplit.t h e
    conv => whnf
    refine ACalls.inn (c_ref08_Length (W.bindE h) (fun v3 h => ?_)) ⟨rfl, rfl⟩
    conv => whnf
    refine ⟨_, Weak.a ?_, ?_, h⟩; (conv => whnf); exact ⟨rfl, rfl, rfl, rfl, rfl⟩; exact rfl
  · replace h := XSplit.f h e
    conv => whnf
    refine ASeq.go tab_ok mixed_ ?_
    conv => whnf
    refine XSplit.mk (fun e => ?_) (fun e => ?_)
    · replace h := XSplit.t h e
      conv => whnf
      refine ⟨_, Weak.a ?_, ?_, h⟩; (conv => whnf); exact ⟨rfl, rfl, rfl, rfl, rfl⟩; exact rfl
    · replace h := XSplit.f h e
      conv => whnf
      refine ⟨_, Weak.a ?_, ?_, h⟩; (conv => whnf); exact ⟨rfl, rfl, rfl, rfl, rfl⟩; exact rfl
theorem c_ref08_Look {a0 : Int} {a1 : Int} {a2 : Int} {a3 : Int} {a4 : Int} {a5 : Bool} {a6 : Rws} {a7 : Int} {Q : Int × Int × Int × Int × Bool × Rws → Prop} {R : AV → List AB → Prop} (h : (g_ref08_Look a0 a1 a2 a3 a4 a5 a6 a7).run Q) (k : ∀ r, Q r → R (.tup [.own 0, .int .i64 (r.fst), .agg [.int .i64 (r.snd.fst), .int .i64 (r.snd.snd.fst), .int .i64 (r.snd.snd.snd.fst)]]) ([.arr true 23 (r.snd.snd.snd.snd.fst) (r.snd.snd.snd.snd.snd)])) : ACalls Tryz.prog tab 15 [.agg [.int .i64 (a0), .int .i64 (a1), .int .i64 (a2), .int .i64 (a3), .int .i64 (a4), .sl (a5) 51 (a6), .int .i64 (a7)]] [] R := by
  refine ACalls.out (fun r => .tup [.own 0, .int .i64 (r.fst), .agg [.int .i64 (r.snd.fst), .int .i64 (r.snd.snd.fst), .int .i64 (r.snd.snd.snd.fst)]]) (fun r => [.arr true 23 (r.snd.snd.snd.snd.fst) (r.snd.snd.snd.snd.snd)]) (Q := Q) (ACalls.introX (mv := mv) tab_ok mixed_ (fn := Tryz.f15) (by kernel_rfl) rfl (by kernel_rfl) (by kernel_rfl) (leB rfl) ?_) (fun v => by first | exact ⟨rfl, leB rfl⟩ | (cases v <;> exact ⟨rfl, leB rfl⟩)) k
  conv => whnf
  refine ASeq.joinW tab_ok mixed_ (fun v10 => ⟨[(1, .ptr 0 0), (2, .nils), (3, .int .i64 (0)), (4, .ptr 1 0), (5, .int .i64 (v10))], [(0, .box 26 [.int .i64 (a0), .int .i64 (a1), .int .i64 (a2), .int .i64 (a3), .int .i64 (a4), .sl (a5) 51 (a6), .int .i64 (a7)]), (1, .box 39 [.int .i64 (0), .int .i64 (0), .int .i64 (0)])], 2, [], []⟩) h (fun Q h => ?_) (fun v10 h => ?_)
  · conv => whnf
    refine ACalls.inn (c_ref05_Valid (W.bindE h) (fun v11 h => ?_)) ⟨rfl, rfl⟩
    conv => whnf
    refine XSplit.mk (fun e => ?_) (fun e => ?_)
    · replace h := XSplit.t h e
      conv => whnf
      refine ⟨_, Weak.a ?_, h⟩; (conv => whnf); exact ⟨rfl, rfl, rfl, rfl, rfl⟩
    · replace h := XSplit.f h e
      conv => whnf
      refine ASeq.joinW tab_ok mixed_ (fun v12 => ⟨[(1, .ptr 0 0), (2, .nils), (3, .int .i64 (0)), (4, .ptr 1 0), (5, .int .i64 (0)), (32, .bool (v12))], [(0, .box 26 [.int .i64 (a0), .int .i64 (a1), .int .i64 (a2), .int .i64 (a3), .int .i64 (a4), .sl (a5) 51 (a6), .int .i64 (a7)]), (1, .box 39 [.int .i64 (0), .int .i64 (0), .int .i64 (0)])], 2, [], []⟩) h (fun Q h => ?_) (fun v12 h => ?_)
      · conv => whnf
        refine ACalls.inn (c_ref08_values (W.bindE h) (fun v13 h => ?_)) ⟨rfl, rfl⟩
        conv => whnf
        refine XSplit.mk (fun e => ?_) (fun e => ?_)
        · replace h := XSplit.t h e
          conv => whnf
          refine ⟨_, Weak.a ?_, h⟩; (conv => whnf); exact ⟨rfl, rfl, rfl, rfl, rfl⟩
        · replace h := XSplit.f h e
          conv => whnf
          refine ACalls.inn (c_ref08_values (W.bindE h) (fun v14 h => ?_)) ⟨rfl, rfl⟩
          conv => whnf
          refine ⟨_, Weak.a ?_, h⟩; (conv => whnf); exact ⟨rfl, rfl, rfl, rfl, rfl⟩
      · conv => whnf
        refine XSplit.mk (fun e => ?_) (fun e => ?_)
        · replace h := XSplit.t h e
          conv => whnf
          refine ⟨_, Weak.a ?_, h⟩; (conv => whnf); exact ⟨rfl, rfl, rfl, rfl, rfl⟩
        · replace h := XSplit.f h e
          conv => whnf
          refine XSplit.mk (fun e => ?_) (fun e => ?_)
          · replace h := XSplit.t h e
            conv => whnf
            refine ⟨_, Weak.a ?_, h⟩; (conv => whnf); exact ⟨rfl, rfl, rfl, rfl, rfl⟩
          · replace h := XSplit.f h e
            conv => whnf
            refine XSplit.mk (fun e => ?_) (fun e => ?_)
            · replace h := XSplit.t h e
              conv => whnf
              refine ⟨_, Weak.a ?_, h⟩; (conv => whnf); exact ⟨rfl, rfl, rfl, rfl, rfl⟩
            · replace h := XSplit.f h e
              conv => whnf
              refine ⟨_, Weak.a ?_, h⟩; (conv => whnf); exact ⟨rfl, rfl, rfl, rfl, rfl⟩
  · conv => whnf
    refine ASeq.go tab_ok mixed_ ?_
    conv => whnf
    refine XSplit.mk (fun e => ?_) (fun e => ?_)
    · replace h := XSplit.t h e
      conv => whnf
      refine ⟨_, Weak.a ?_, ?_, h⟩; (conv => whnf); exact ⟨rfl, rfl, rfl, rfl, rfl⟩; exact rfl
    · replace h := XSplit.f h e
      conv => whnf
      refine ASeq.go tab_ok mixed_ ?_
      conv => whnf
      refine ALoop.ofW tab_ok mixed_ (fun v15 => ⟨[(2, .nils), (3, .int .i64 (0)), (4, .ptr 0 0), (6, .own 1), (7, .int .i64 (v15.fst)), (56, .sl (a5) 51 (a6)), (57, .int .i64 ((↑(List.length a6) : Int))), (58, .int .i64 (v15.snd.fst))], [(0, .box 39 [.int .i64 (0), .int .i64 (0), .int .i64 (0)]), (1, .arr true 23 (false) (v15.snd.snd))], 2, [], []⟩) (sx (fun v16 => (.ret, ⟨[(2, .nils), (3, .int .i64 (0)), (4, .ptr 0 0)], [(0, .box 39 [.int .i64 (v16.fst), .int .i64 (v16.snd), .int .i64 (0)])], 1, [], []⟩)) (fun v17 => (.exit 0, ⟨[(2, .nils), (3, .int .i64 (0)), (4, .ptr 0 0), (6, .own 1), (7, .int .i64 (v17.fst))], [(0, .box 39 [.int .i64 (0), .int .i64 (0), .int .i64 (0)]), (1, .arr true 23 (false) (v17.snd))], 2, [], []⟩))) (W.bindE h) (Weak.a ?_) (fun v15 J_ Q h => ?_) (fun v h => ?_)
      · conv => whnf
        exact ⟨rfl, rfl, rfl, rfl, rfl⟩
      · conv => whnf
        refine ASeq.go tab_ok mixed_ ?_
        conv => whnf
        refine XSplit.mk (fun e => ?_) (fun e => ?_)
        · replace h := XSplit.t h e
          conv => whnf
          refine ASeq.go tab_ok mixed_ ?_
          conv => whnf
          refine XNeed.mk (XNeed.c h) ?_; replace h := XNeed.x h
          conv => whnf
          refine ACalls.inn (c_ref08_one (W.bindE h) (fun v18 h => ?_)) ⟨rfl, rfl⟩
          conv => whnf
          refine ASeq.go tab_ok mixed_ ?_
          conv => whnf
          refine XSplit.mk (fun e => ?_) (fun e => ?_)
          · replace h := XSplit.t h e
            conv => whnf
            refine ⟨_, ?_, Weak.a ?_, h⟩; exact rfl; (conv => whnf); exact ⟨rfl, rfl, rfl, rfl, rfl⟩
          · replace h := XSplit.f h e
            conv => whnf
            refine XDraw.d [0, 1, 2, 3, 4, 5, 6, 7, 8, 9, 10] [[], [], [], [], [], [], [], [], [4], [], []] (by decide +kernel) ?_
            conv => whnf
            refine XNeed.mk (XNeed.c h) ?_; replace h := XNeed.x h
            conv => whnf
            refine ACalls.inn (c_ref08_Labour (W.bindE h) (fun v19 h => ?_)) ⟨rfl, rfl⟩
            conv => whnf
            refine ASeq.go tab_ok mixed_ ?_
            conv => whnf
            refine XSplit.mk (fun e => ?_) (fun e => ?_)
            · replace h := XSplit.t h e
              conv => whnf
              refine ⟨_, ?_, Weak.a ?_, h⟩; exact rfl; (conv => whnf); exact ⟨rfl, rfl, rfl, rfl, rfl⟩
            · replace h := XSplit.f h e
              conv => whnf
              refine XNeed.mk (XNeed.c h) ?_; replace h := XNeed.x h
              conv => whnf
              refine ⟨_, Weak.a ?_, h⟩; (conv => whnf); exact ⟨rfl, rfl, rfl, rfl, rfl⟩
        · replace h := XSplit.f h e
          conv => whnf
          refine ⟨_, ?_, Weak.a ?_, h⟩; exact rfl; (conv => whnf); exact ⟨rfl, rfl, rfl, rfl, rfl⟩
      · rcases v with v16 | v17
        · conv => whnf
          refine ⟨_, Weak.a ?_, ?_, h⟩; (conv => whnf); exact ⟨rfl, rfl, rfl, rfl, rfl⟩; exact rfl
        · conv => whnf
          refine ⟨_, Weak.a ?_, ?_, h⟩; (conv => whnf); exact ⟨rfl, rfl, rfl, rfl, rfl⟩; exact rfl
theorem c_ref03_Values {a0 : Int} {a1 : Int} {Q : Bool → Prop} {R : AV → List AB → Prop} (h : (g_ref03_Values a0 a1).run Q) (k : ∀ r, Q r → R (.bool (r)) ([])) : ACalls Tryz.prog tab 16 [.agg [.int .i64 (a0), .int .i64 (a1)]] [] R := by
  refine ACalls.out (fun r => .bool (r)) (fun r => []) (Q := Q) (ACalls.introX (mv := mv) tab_ok mixed_ (fn := Tryz.f16) (by kernel_rfl) rfl (by kernel_rfl) (by kernel_rfl) (leB rfl) ?_) (fun v => by first | exact ⟨rfl, leB rfl⟩ | (cases v <;> exact ⟨rfl, leB rfl⟩)) k
  conv => whnf
  refine ⟨_, Weak.a ?_, ?_, h⟩; (conv => whnf); exact ⟨rfl, rfl, rfl, rfl, rfl⟩; exact rfl
theorem c_ref01_Size {a0 : Int} {Q : Int → Prop} {R : AV → List AB → Prop} (h : (g_ref01_Size a0).run Q) (k : ∀ r, Q r → R (.int .u64 (r)) ([])) : ACalls Tryz.prog tab 88 [.int .i64 (a0)] [] R := by
  refine ACalls.out (fun r => .int .u64 (r)) (fun r => []) (Q := Q) (ACalls.introX (mv := mv) tab_ok mixed_ (fn := Tryz.f88) (by kernel_rfl) rfl (by kernel_rfl) (by kernel_rfl) (leB rfl) ?_) (fun v => by first | exact ⟨rfl, leB rfl⟩ | (cases v <;> exact ⟨rfl, leB rfl⟩)) k
  conv => whnf
  refine ASeq.go tab_ok mixed_ ?_
  conv => whnf
  refine XSplit.mk (fun e => ?_) (fun e => ?_)
  · replace h := XSplit.t h e
    conv => whnf
    refine ⟨_, Weak.a ?_, ?_, h⟩; (conv => whnf); exact ⟨rfl, rfl, rfl, rfl, rfl⟩; exact rfl
  · replace h := XSplit.f h e
    conv => whnf
    refine ⟨_, Weak.a ?_, ?_, h⟩; (conv => whnf); exact ⟨rfl, rfl, rfl, rfl, rfl⟩; exact rfl
theorem c_ref02_half {a0 : Int} {a1 : Int} {Q : Int → Prop} {R : AV → List AB → Prop} (h : (g_ref02_half a0 a1).run Q) (k : ∀ r, Q r → R (.int .u64 (r)) ([])) : ACalls Tryz.prog tab 87 [.int .u64 (a0), .int .u64 (a1)] [] R := by
  refine ACalls.out (fun r => .int .u64 (r)) (fun r => []) (Q := Q) (ACalls.introX (mv := mv) tab_ok mixed_ (fn := Tryz.f87) (by kernel_rfl) rfl (by kernel_rfl) (by kernel_rfl) (leB rfl) ?_) (fun v => by first | exact ⟨rfl, leB rfl⟩ | (cases v <;> exact ⟨rfl, leB rfl⟩)) k
  conv => whnf
  refine XNeed.mk (XNeed.c h) ?_; replace h := XNeed.x h
  conv => whnf
  refine XNeed.mk (XNeed.c h) ?_; replace h := XNeed.x h
  conv => whnf
  refine ASeq.go tab_ok mixed_ ?_
  conv => whnf
  refine XSplit.mk (fun e => ?_) (fun e => ?_)
  · replace h := XSplit.t h e
    conv => whnf
    refine ⟨_, Weak.a ?_, ?_, h⟩; (conv => whnf); exact ⟨rfl, rfl, rfl, rfl, rfl⟩; exact rfl
  · replace h := XSplit.f h e
    conv => whnf
    refine ⟨_, Weak.a ?_, ?_, h⟩; (conv => whnf); exact ⟨rfl, rfl, rfl, rfl, rfl⟩; exact rfl
theorem c_ref01_Signed {a0 : Int} {a1 : Bool} {Q : Int × Bool → Prop} {R : AV → List AB → Prop} (h : (g_ref01_Signed a0 a1).run Q) (k : ∀ r, Q r → R (.tup [.int .i64 (r.fst), .bool (r.snd)]) ([])) : ACalls Tryz.prog tab 102 [.int .u64 (a0), .bool (a1)] [] R := by
  refine ACalls.out (fun r => .tup [.int .i64 (r.fst), .bool (r.snd)]) (fun r => []) (Q := Q) (ACalls.introX (mv := mv) tab_ok mixed_ (fn := Tryz.f102) (by kernel_rfl) rfl (by kernel_rfl) (by kernel_rfl) (leB rfl) ?_) (fun v => by first | exact ⟨rfl, leB rfl⟩ | (cases v <;> exact ⟨rfl, leB rfl⟩)) k
  conv => whnf
  refine ASeq.go tab_ok mixed_ ?_
  conv => whnf
  refine XSplit.mk (fun e => ?_) (fun e => ?_)
  · replace h := XSplit.t h e
    conv => whnf
    refine ASeq.go tab_ok mixed_ ?_
    conv => whnf
    refine XSplit.mk (fun e => ?_) (fun e => ?_)
    · replace h := XSplit.t h e
      conv => whnf
      refine ⟨_, Weak.a ?_, ?_, h⟩; (conv => whnf); exact ⟨rfl, rfl, rfl, rfl, rfl⟩; exact rfl
    · replace h := XSplit.f h e
      conv => whnf
      refine ⟨_, Weak.a ?_, ?_, h⟩; (conv => whnf); exact ⟨rfl, rfl, rfl, rfl, rfl⟩; exact rfl
  · replace h := XSplit.f h e
    conv => whnf
    refine ASeq.go tab_ok mixed_ ?_
    conv => whnf
    refine XSplit.mk (fun e => ?_) (fun e => ?_)
    · replace h := XSplit.t h e
      conv => whnf
      refine ⟨_, Weak.a ?_, ?_, h⟩; (conv => whnf); exact ⟨rfl, rfl, rfl, rfl, rfl⟩; exact rfl
    · replace h := XSplit.f h e
      conv => whnf
      refine ⟨_, Weak.a ?_, ?_, h⟩; (conv => whnf); exact ⟨rfl, rfl, rfl, rfl, rfl⟩; exact rfl
theorem c_ref02_back {a0 : Int} {a1 : Bool} {Q : Int → Prop} {R : AV → List AB → Prop} (h : (g_ref02_back a0 a1).run Q) (k : ∀ r, Q r → R (.int .i64 (r)) ([])) : ACalls Tryz.prog tab 86 [.int .u64 (a0), .bool (a1)] [] R := by
  refine ACalls.out (fun r => .int .i64 (r)) (fun r => []) (Q := Q) (ACalls.introX (mv := mv) tab_ok mixed_ (fn := Tryz.f86) (by kernel_rfl) rfl (by kernel_rfl) (by kernel_rfl) (leB rfl) ?_) (fun v => by first | exact ⟨rfl, leB rfl⟩ | (cases v <;> exact ⟨rfl, leB rfl⟩)) k
  conv => whnf
  refine ACalls.inn (c_ref01_Signed (W.bindE h) (fun v1 h => ?_)) ⟨rfl, rfl⟩
  conv => whnf
  refine ⟨_, Weak.a ?_, ?_, h⟩; (conv => whnf); exact ⟨rfl, rfl, rfl, rfl, rfl⟩; exact rfl
theorem c_ref02_Apply {a0 : Int} {a1 : Int} {a2 : Int} {Q : Int × Int → Prop} {R : AV → List AB → Prop} (h : (g_ref02_Apply a0 a1 a2).run Q) (k : ∀ r, Q r → R (.tup [.int .i64 (r.fst), .int .i64 (r.snd)]) ([])) : ACalls Tryz.prog tab 62 [.int .i64 (a0), .int .i64 (a1), .int .i64 (a2)] [] R := by
  refine ACalls.out (fun r => .tup [.int .i64 (r.fst), .int .i64 (r.snd)]) (fun r => []) (Q := Q) (ACalls.introX (mv := mv) tab_ok mixed_ (fn := Tryz.f62) (by kernel_rfl) rfl (by kernel_rfl) (by kernel_rfl) (leB rfl) ?_) (fun v => by first | exact ⟨rfl, leB rfl⟩ | (cases v <;> exact ⟨rfl, leB rfl⟩)) k
  conv => whnf
  refine ASeq.go tab_ok mixed_ ?_
  conv => whnf
  refine ACalls.inn (c_ref02_Valid (W.bindE h) (fun v4 h => ?_)) ⟨rfl, rfl⟩
  conv => whnf
  refine XSplit.mk (fun e => ?_) (fun e => ?_)
  · replace h := XSplit.t h e
    conv => whnf
    refine ⟨_, Weak.a ?_, ?_, h⟩; (conv => whnf); exact ⟨rfl, rfl, rfl, rfl, rfl⟩; exact rfl
  · replace h := XSplit.f h e
    conv => whnf
    refine ASeq.go tab_ok mixed_ ?_
    conv => whnf
    refine XSplit.mk (fun e => ?_) (fun e => ?_)
    · replace h := XSplit.t h e
      conv => whnf
      refine ⟨_, Weak.a ?_, ?_, h⟩; (conv => whnf); exact ⟨rfl, rfl, rfl, rfl, rfl⟩; exact rfl
    · replace h := XSplit.f h e
      conv => whnf
      refine ACalls.inn (c_ref01_Size (W.bindE h) (fun v5 h => ?_)) ⟨rfl, rfl⟩
      conv => whnf
      refine XNeed.mk (XNeed.c h) ?_; replace h := XNeed.x h
      conv => whnf
      refine ACalls.inn (c_ref02_half (W.bindE h) (fun v6 h => ?_)) ⟨rfl, rfl⟩
      conv => whnf
      refine ACalls.inn (c_ref02_back (W.bindE h) (fun v7 h => ?_)) ⟨rfl, rfl⟩
      conv => whnf
      refine ⟨_, Weak.a ?_, ?_, h⟩; (conv => whnf); exact ⟨rfl, rfl, rfl, rfl, rfl⟩; exact rfl
theorem c_ref01_Clamp {a0 : Int} {a1 : Int} {a2 : Int} {Q : Int → Prop} {R : AV → List AB → Prop} (h : (g_ref01_Clamp a0 a1 a2).run Q) (k : ∀ r, Q r → R (.int .i64 (r)) ([])) : ACalls Tryz.prog tab 89 [.int .i64 (a0), .int .i64 (a1), .int .i64 (a2)] [] R := by
  refine ACalls.out (fun r => .int .i64 (r)) (fun r => []) (Q := Q) (ACalls.introX (mv := mv) tab_ok mixed_ (fn := Tryz.f89) (by kernel_rfl) rfl (by kernel_rfl) (by kernel_rfl) (leB rfl) ?_) (fun v => by first | exact ⟨rfl, leB rfl⟩ | (cases v <;> exact ⟨rfl, leB rfl⟩)) k
  conv => whnf
  refine ASeq.go tab_ok mixed_ ?_
  conv => whnf
  refine XSplit.mk (fun e => ?_) (fun e => ?_)
  · replace h := XSplit.t h e
    conv => whnf
    refine ⟨_, Weak.a ?_, ?_, h⟩; (conv => whnf); exact ⟨rfl, rfl, rfl, rfl, rfl⟩; exact rfl
  · replace h := XSplit.f h e
    conv => whnf
    refine ASeq.go tab_ok mixed_ ?_
    conv => whnf
    refine XSplit.mk (fun e => ?_) (fun e => ?_)
    · replace h := XSplit.t h e
      conv => whnf
      refine ⟨_, Weak.a ?_, ?_, h⟩; (conv => whnf); exact ⟨rfl, rfl, rfl, rfl, rfl⟩; exact rfl
    · replace h := XSplit.f h e
      conv => whnf
      refine ⟨_, Weak.a ?_, ?_, h⟩; (conv => whnf); exact ⟨rfl, rfl, rfl, rfl, rfl⟩; exact rfl
theorem c_ref02_Finish {a0 : Int} {a1 : Int} {a2 : Int} {a3 : Int} {Q : Int × Int → Prop} {R : AV → List AB → Prop} (h : (g_ref02_Finish a0 a1 a2 a3).run Q) (k : ∀ r, Q r → R (.tup [.int .i64 (r.fst), .int .i64 (r.snd)]) ([])) : ACalls Tryz.prog tab 63 [.int .i64 (a0), .int .i64 (a1), .int .i64 (a2), .int .i64 (a3)] [] R := by
  refine ACalls.out (fun r => .tup [.int .i64 (r.fst), .int .i64 (r.snd)]) (fun r => []) (Q := Q) (ACalls.introX (mv := mv) tab_ok mixed_ (fn := Tryz.f63) (by kernel_rfl) rfl (by kernel_rfl) (by kernel_rfl) (leB rfl) ?_) (fun v => by first | exact ⟨rfl, leB rfl⟩ | (cases v <;> exact ⟨rfl, leB rfl⟩)) k
  conv => whnf
  refine ASeq.go tab_ok mixed_ ?_
  conv => whnf
  refine XSplit.mk (fun e => ?_) (fun e => ?_)
  · replace h := XSplit.t h e
    conv => whnf
    refine ⟨_, Weak.a ?_, ?_, h⟩; (conv => whnf); exact ⟨rfl, rfl, rfl, rfl, rfl⟩; exact rfl
  · replace h := XSplit.f h e
    conv => whnf
    refine ASeq.go tab_ok mixed_ ?_
    conv => whnf
    refine XSplit.mk (fun e => ?_) (fun e => ?_)
    · replace h := XSplit.t h e
      conv => whnf
      refine ⟨_, Weak.a ?_, ?_, h⟩; (conv => whnf); exact ⟨rfl, rfl, rfl, rfl, rfl⟩; exact rfl
    · replace h := XSplit.f h e
      conv => whnf
      refine ASeq.go tab_ok mixed_ ?_
      conv => whnf
      refine XSplit.mk (fun e => ?_) (fun e => ?_)
      · replace h := XSplit.t h e
        conv => whnf
        refine ⟨_, Weak.a ?_, ?_, h⟩; (conv => whnf); exact ⟨rfl, rfl, rfl, rfl, rfl⟩; exact rfl
      · replace h := XSplit.f h e
        conv => whnf
        refine ACalls.inn (c_ref01_Clamp (W.bindE h) (fun v1 h => ?_)) ⟨rfl, rfl⟩
        conv => whnf
        refine ⟨_, Weak.a ?_, ?_, h⟩; (conv => whnf); exact ⟨rfl, rfl, rfl, rfl, rfl⟩; exact rfl
theorem c_ref14_end {a0 : Int} {a1 : Int} {a2 : Int} {a3 : Int} {a4 : Int} {a5 : Int} {a6 : Int} {a7 : Int} {a8 : Int} {a9 : Int} {a10 : Int} {a11 : Int} {a12 : Bool} {a13 : Rws} {a14 : Bool} {a15 : Rws} {a16 : Int} {a17 : Int} {a18 : Int} {a19 : Int} {a20 : Int} {a21 : Int} {a22 : Int} {a23 : Int} {a24 : Int} {a25 : Int} {Q : Int → Prop} {R : AV → List AB → Prop} (h : (g_ref14_end a0 a1 a2 a3 a4 a5 a6 a7 a8 a9 a10 a11 a12 a13 a14 a15 a16 a17 a18 a19 a20 a21 a22 a23 a24 a25).run Q) (k : ∀ r, Q r → R (.int .i64 (r)) ([])) : ACalls Tryz.prog tab 33 [.agg [.int .i64 (a0), .int .i64 (a1), .int .i64 (a2), .int .i64 (a3), .int .i64 (a4), .int .i64 (a5), .int .i64 (a6), .int .i64 (a7), .int .i64 (a8), .int .i64 (a9), .int .i64 (a10), .int .i64 (a11), .sl (a12) 81 (a13), .sl (a14) 21 (a15), .int .i64 (a16), .int .i64 (a17), .int .i64 (a18), .int .i64 (a19), .int .i64 (a20), .int .i64 (a21), .int .i64 (a22), .int .i64 (a23)], .int .i64 (a24), .int .i64 (a25)] [] R := by
  refine ACalls.out (fun r => .int .i64 (r)) (fun r => []) (Q := Q) (ACalls.introX (mv := mv) tab_ok mixed_ (fn := Tryz.f33) (by kernel_rfl) rfl (by kernel_rfl) (by kernel_rfl) (leB rfl) ?_) (fun v => by first | exact ⟨rfl, leB rfl⟩ | (cases v <;> exact ⟨rfl, leB rfl⟩)) k
  conv => whnf
  refine ASeq.joinW tab_ok mixed_ (fun v5 => ⟨[(2, .int .i64 (a25)), (3, .ptr 0 0), (6, .int .i64 (0)), (7, .int .i64 (v5))], [(0, .box 51 [.int .i64 (a0), .int .i64 (a1), .int .i64 (a2), .int .i64 (a3), .int .i64 (a4), .int .i64 (a5), .int .i64 (a6), .int .i64 (a7), .int .i64 (a8), .int .i64 (a9), .int .i64 (a10), .int .i64 (a11), .sl (a12) 81 (a13), .sl (a14) 21 (a15), .int .i64 (a16), .int .i64 (a17), .int .i64 (a18), .int .i64 (a19), .int .i64 (a20), .int .i64 (a21), .int .i64 (a22), .int .i64 (a23)])], 1, [], []⟩) h (fun Q h => ?_) (fun v5 h => ?_)
  · conv => whnf
    refine XSplit.mk (fun e => ?_) (fun e => ?_)
    · replace h := XSplit.t h e
      conv => whnf
      refine ACalls.inn (c_ref02_Apply (W.bindE h) (fun v6 h => ?_)) ⟨rfl, rfl⟩
      conv => whnf
      refine ⟨_, Weak.a ?_, h⟩; (conv => whnf); exact ⟨rfl, rfl, rfl, rfl, rfl⟩
    · replace h := XSplit.f h e
      conv => whnf
      refine ⟨_, Weak.a ?_, h⟩; (conv => whnf); exact ⟨rfl, rfl, rfl, rfl, rfl⟩
  · conv => whnf
    refine ASeq.joinW tab_ok mixed_ (fun v7 => ⟨[(3, .ptr 0 0), (6, .int .i64 (0)), (7, .int .i64 (v7))], [(0, .box 51 [.int .i64 (a0), .int .i64 (a1), .int .i64 (a2), .int .i64 (a3), .int .i64 (a4), .int .i64 (a5), .int .i64 (a6), .int .i64 (a7), .int .i64 (a8), .int .i64 (a9), .int .i64 (a10), .int .i64 (a11), .sl (a12) 81 (a13), .sl (a14) 21 (a15), .int .i64 (a16), .int .i64 (a17), .int .i64 (a18), .int .i64 (a19), .int .i64 (a20), .int .i64 (a21), .int .i64 (a22), .int .i64 (a23)])], 1, [], []⟩) h (fun Q h => ?_) (fun v7 h => ?_)
    · conv => whnf
      refine XSplit.mk (fun e => ?_) (fun e => ?_)
      · replace h := XSplit.t h e
        conv => whnf
        refine ACalls.inn (c_ref02_Apply (W.bindE h) (fun v8 h => ?_)) ⟨rfl, rfl⟩
        conv => whnf
        refine ⟨_, Weak.a ?_, h⟩; (conv => whnf); exact ⟨rfl, rfl, rfl, rfl, rfl⟩
      · replace h := XSplit.f h e
        conv => whnf
        refine ⟨_, Weak.a ?_, h⟩; (conv => whnf); exact ⟨rfl, rfl, rfl, rfl, rfl⟩
    · conv => whnf
      refine ACalls.inn (c_ref02_Finish (W.bindE h) (fun v9 h => ?_)) ⟨rfl, rfl⟩
      conv => whnf
      refine ⟨_, Weak.a ?_, ?_, h⟩; (conv => whnf); exact ⟨rfl, rfl, rfl, rfl, rfl⟩; exact rfl
theorem c__ref10_Site__Positions {a0 : Int} {a1 : Int} {a2 : Int} {a3 : Int} {a4 : Int} {a5 : Int} {a6 : Int} {a7 : Int} {a8 : Int} {a9 : Int} {a10 : Int} {a11 : Int} {a12 : Bool} {a13 : Rws} {a14 : Bool} {a15 : Rws} {a16 : Int} {a17 : Int} {a18 : Int} {a19 : Int} {a20 : Int} {a21 : Int} {a22 : Int} {a23 : Int} {a24 : Int} {a25 : Int} {a26 : Int} {a27 : Int} {a28 : Int} {a29 : Int} {Q : Int → Prop} {R : AV → List AB → Prop} (h : (g__ref10_Site__Positions a0 a1 a2 a3 a4 a5 a6 a7 a8 a9 a10 a11 a12 a13 a14 a15 a16 a17 a18 a19 a20 a21 a22 a23 a24 a25 a26 a27 a28 a29).run Q) (k : ∀ r, Q r → R (.int .i64 (r)) ([])) : ACalls Tryz.prog tab 90 [.agg [.int .i64 (a0), .int .i64 (a1), .int .i64 (a2), .int .i64 (a3), .int .i64 (a4), .int .i64 (a5), .int .i64 (a6), .int .i64 (a7), .int .i64 (a8), .int .i64 (a9), .int .i64 (a10), .int .i64 (a11), .sl (a12) 81 (a13), .sl (a14) 21 (a15), .int .i64 (a16), .int .i64 (a17), .int .i64 (a18), .int .i64 (a19), .int .i64 (a20), .int .i64 (a21), .int .i64 (a22), .int .i64 (a23), .int .i64 (a24), .int .i64 (a25), .int .i64 (a26), .int .i64 (a27), .int .i64 (a28), .int .i64 (a29)]] [] R := by
  refine ACalls.out (fun r => .int .i64 (r)) (fun r => []) (Q := Q) (ACalls.introX (mv := mv) tab_ok mixed_ (fn := Tryz.f90) (by kernel_rfl) rfl (by kernel_rfl) (by kernel_rfl) (leB rfl) ?_) (fun v => by first | exact ⟨rfl, leB rfl⟩ | (cases v <;> exact ⟨rfl, leB rfl⟩)) k
  conv => whnf
  refine ⟨_, Weak.a ?_, ?_, h⟩; (conv => whnf); exact ⟨rfl, rfl, rfl, rfl, rfl⟩; exact rfl
theorem c__ref10_Site__Length {a0 : Int} {a1 : Int} {a2 : Int} {a3 : Int} {a4 : Int} {a5 : Int} {a6 : Int} {a7 : Int} {a8 : Int} {a9 : Int} {a10 : Int} {a11 : Int} {a12 : Bool} {a13 : Rws} {a14 : Bool} {a15 : Rws} {a16 : Int} {a17 : Int} {a18 : Int} {a19 : Int} {a20 : Int} {a21 : Int} {a22 : Int} {a23 : Int} {a24 : Int} {a25 : Int} {a26 : Int} {a27 : Int} {a28 : Int} {a29 : Int} {Q : Int → Prop} {R : AV → List AB → Prop} (h : (g__ref10_Site__Length a0 a1 a2 a3 a4 a5 a6 a7 a8 a9 a10 a11 a12 a13 a14 a15 a16 a17 a18 a19 a20 a21 a22 a23 a24 a25 a26 a27 a28 a29).run Q) (k : ∀ r, Q r → R (.int .i64 (r)) ([])) : ACalls Tryz.prog tab 36 [.agg [.int .i64 (a0), .int .i64 (a1), .int .i64 (a2), .int .i64 (a3), .int .i64 (a4), .int .i64 (a5), .int .i64 (a6), .int .i64 (a7), .int .i64 (a8), .int .i64 (a9), .int .i64 (a10), .int .i64 (a11), .sl (a12) 81 (a13), .sl (a14) 21 (a15), .int .i64 (a16), .int .i64 (a17), .int .i64 (a18), .int .i64 (a19), .int .i64 (a20), .int .i64 (a21), .int .i64 (a22), .int .i64 (a23), .int .i64 (a24), .int .i64 (a25), .int .i64 (a26), .int .i64 (a27), .int .i64 (a28), .int .i64 (a29)]] [] R := by
  refine ACalls.out (fun r => .int .i64 (r)) (fun r => []) (Q := Q) (ACalls.introX (mv := mv) tab_ok mixed_ (fn := Tryz.f36) (by kernel_rfl) rfl (by kernel_rfl) (by kernel_rfl) (leB rfl) ?_) (fun v => by first | exact ⟨rfl, leB rfl⟩ | (cases v <;> exact ⟨rfl, leB rfl⟩)) k
  conv => whnf
  refine ACalls.inn (c_ref08_Length (W.bindE h) (fun v1 h => ?_)) ⟨rfl, rfl⟩
  conv => whnf
  refine ⟨_, Weak.a ?_, ?_, h⟩; (conv => whnf); exact ⟨rfl, rfl, rfl, rfl, rfl⟩; exact rfl
theorem c__ref10_Site__weight {a0 : Int} {a1 : Int} {a2 : Int} {a3 : Int} {a4 : Int} {a5 : Int} {a6 : Int} {a7 : Int} {a8 : Int} {a9 : Int} {a10 : Int} {a11 : Int} {a12 : Bool} {a13 : Rws} {a14 : Bool} {a15 : Rws} {a16 : Int} {a17 : Int} {a18 : Int} {a19 : Int} {a20 : Int} {a21 : Int} {a22 : Int} {a23 : Int} {a24 : Int} {a25 : Int} {a26 : Int} {a27 : Int} {a28 : Int} {a29 : Int} {a30 : Int} {a31 : Int} {Q : Int → Prop} {R : AV → List AB → Prop} (h : (g__ref10_Site__weight a0 a1 a2 a3 a4 a5 a6 a7 a8 a9 a10 a11 a12 a13 a14 a15 a16 a17 a18 a19 a20 a21 a22 a23 a24 a25 a26 a27 a28 a29 a30 a31).run Q) (k : ∀ r, Q r → R (.int .i64 (r)) ([])) : ACalls Tryz.prog tab 103 [.agg [.int .i64 (a0), .int .i64 (a1), .int .i64 (a2), .int .i64 (a3), .int .i64 (a4), .int .i64 (a5), .int .i64 (a6), .int .i64 (a7), .int .i64 (a8), .int .i64 (a9), .int .i64 (a10), .int .i64 (a11), .sl (a12) 81 (a13), .sl (a14) 21 (a15), .int .i64 (a16), .int .i64 (a17), .int .i64 (a18), .int .i64 (a19), .int .i64 (a20), .int .i64 (a21), .int .i64 (a22), .int .i64 (a23), .int .i64 (a24), .int .i64 (a25), .int .i64 (a26), .int .i64 (a27), .int .i64 (a28), .int .i64 (a29)], .int .i64 (a30), .int .i64 (a31)] [] R := by
  refine ACalls.out (fun r => .int .i64 (r)) (fun r => []) (Q := Q) (ACalls.introX (mv := mv) tab_ok mixed_ (fn := Tryz.f103) (by kernel_rfl) rfl (by kernel_rfl) (by kernel_rfl) (leB rfl) ?_) (fun v => by first | exact ⟨rfl, leB rfl⟩ | (cases v <;> exact ⟨rfl, leB rfl⟩)) k
  conv => whnf
  refine ASeq.go tab_ok mixed_ ?_
  conv => whnf
  refine XSplit.mk (fun e => ?_) (fun e => ?_)
  · replace h := XSplit.t h e
    conv => whnf
    refine ⟨_, Weak.a ?_, ?_, h⟩; (conv => whnf); exact ⟨rfl, rfl, rfl, rfl, rfl⟩; exact rfl
  · replace h := XSplit.f h e
    conv => whnf
    refine XDraw.d [0, 1, 2, 3, 4, 5, 8, 6, 7, 9, 10, 11, 12, 13] [[], [], [], [], [], [], [], [], [], [], [], [], [1], []] (by decide +kernel) ?_
    conv => whnf
    refine ACalls.inn (c__ref10_Site__Length (W.bindE h) (fun v1 h => ?_)) ⟨rfl, rfl⟩
    conv => whnf
    refine XNeed.mk (XNeed.c h) ?_; replace h := XNeed.x h
    conv => whnf
    refine ⟨_, Weak.a ?_, ?_, h⟩; (conv => whnf); exact ⟨rfl, rfl, rfl, rfl, rfl⟩; exact rfl
theorem c_ref06_Taps {a0 : Int} {a1 : Int} {a2 : Int} {a3 : Int} {a4 : Int} {a5 : Int} {a6 : Int} {a7 : Int} {a8 : Int} {a9 : Int} {a10 : Int} {a11 : Int} {Q : Bool × Rws → Prop} {R : AV → List AB → Prop} (h : (g_ref06_Taps a0 a1 a2 a3 a4 a5 a6 a7 a8 a9 a10 a11).run Q) (k : ∀ r, Q r → R (.own 0) ([.arr true 3 (r.fst) (r.snd)])) : ACalls Tryz.prog tab 104 [.agg [.int .i64 (a0), .int .i64 (a1), .int .i64 (a2)], .agg [.int .i64 (a3), .int .i64 (a4), .int .i64 (a5), .int .i64 (a6), .int .i64 (a7), .int .i64 (a8), .int .i64 (a9), .int .i64 (a10)], .int .i64 (a11)] [] R := by
  refine ACalls.out (fun r => .own 0) (fun r => [.arr true 3 (r.fst) (r.snd)]) (Q := Q) (ACalls.introX (mv := mv) tab_ok mixed_ (fn := Tryz.f104) (by kernel_rfl) rfl (by kernel_rfl) (by kernel_rfl) (leB rfl) ?_) (fun v => by first | exact ⟨rfl, leB rfl⟩ | (cases v <;> exact ⟨rfl, leB rfl⟩)) k
  conv => whnf
  refine ACalls.inn (c_ref06_Out (W.bindE h) (fun v6 h => ?_)) ⟨rfl, rfl⟩
  conv => whnf
  refine XDraw.q [0, 1, 2, 3, 4, 5, 6, 7] (by decide +kernel) ?_
  conv => whnf
  refine XNeed.mk (XNeed.c h) ?_; replace h := XNeed.x h
  conv => whnf
  refine XNeed.mk (XNeed.c h) ?_; replace h := XNeed.x h
  conv => whnf
  refine ASeq.go tab_ok mixed_ ?_
  conv => whnf
  refine ALoop.ofW tab_ok mixed_ (fun v7 => ⟨[(3, .ptr 0 0), (4, .ptr 1 0), (6, .nils), (10, .int .i64 (IntKind.i64.wrap (a11.tdiv v6.snd.fst))), (11, .int .i64 (a11.tmod v6.snd.fst)), (12, .own 2), (13, .int .i64 (v7.fst))], [(0, .box 23 [.int .i64 (a0), .int .i64 (a1), .int .i64 (a2)]), (1, .box 45 [.int .i64 (a3), .int .i64 (a4), .int .i64 (a5), .int .i64 (a6), .int .i64 (a7), .int .i64 (a8), .int .i64 (a9), .int .i64 (a10)]), (2, .arr true 3 (v7.snd.fst) (v7.snd.snd))], 3, [], []⟩) (fun v8 => (.exit 0, ⟨[(6, .nils), (12, .own 0)], [(0, .arr true 3 (v8.fst) (v8.snd))], 1, [], []⟩)) (W.bindE h) (Weak.a ?_) (fun v7 J_ Q h => ?_) (fun v8 h => ?_)
  · conv => whnf
    exact ⟨rfl, rfl, rfl, rfl, rfl⟩
  · conv => whnf
    refine ASeq.go tab_ok mixed_ ?_
    conv => whnf
    refine XSplit.mk (fun e => ?_) (fun e => ?_)
    · replace h := XSplit.t h e
      conv => whnf
      refine ASeq.go tab_ok mixed_ ?_
      conv => whnf
      refine ALoop.ofW tab_ok mixed_ (fun v9 => ⟨[(3, .ptr 0 0), (4, .ptr 1 0), (6, .nils), (10, .int .i64 (IntKind.i64.wrap (a11.tdiv v6.snd.fst))), (11, .int .i64 (a11.tmod v6.snd.fst)), (12, .own 2), (13, .int .i64 (v7.fst)), (14, .int .i64 (v9.fst)), (30, .int .i64 (v7.fst)), (31, .ptr 1 0), (32, .int .i64 (a3)), (33, .bool (decide (v7.fst < a3)))], [(0, .box 23 [.int .i64 (a0), .int .i64 (a1), .int .i64 (a2)]), (1, .box 45 [.int .i64 (a3), .int .i64 (a4), .int .i64 (a5), .int .i64 (a6), .int .i64 (a7), .int .i64 (a8), .int .i64 (a9), .int .i64 (a10)]), (2, .arr true 3 (v9.snd.fst) (v9.snd.snd))], 3, [], []⟩) (fun v10 => (.exit 2, ⟨[(3, .ptr 0 0), (4, .ptr 1 0), (6, .nils), (10, .int .i64 (IntKind.i64.wrap (a11.tdiv v6.snd.fst))), (11, .int .i64 (a11.tmod v6.snd.fst)), (12, .own 2), (13, .int .i64 (v7.fst)), (14, .int .i64 (v10.fst)), (30, .int .i64 (v7.fst)), (31, .ptr 1 0), (32, .int .i64 (a3)), (33, .bool (decide (v7.fst < a3))), (36, .int .i64 (v10.snd.fst)), (37, .ptr 1 1), (38, .int .i64 (a4)), (39, .bool (v10.snd.snd.fst))], [(0, .box 23 [.int .i64 (a0), .int .i64 (a1), .int .i64 (a2)]), (1, .box 45 [.int .i64 (a3), .int .i64 (a4), .int .i64 (a5), .int .i64 (a6), .int .i64 (a7), .int .i64 (a8), .int .i64 (a9), .int .i64 (a10)]), (2, .arr true 3 (v10.snd.snd.snd.fst) (v10.snd.snd.snd.snd))], 3, [], []⟩)) (W.bindE h) (Weak.a ?_) (fun v9 J_ Q h => ?_) (fun v10 h => ?_)
      · conv => whnf
        exact ⟨rfl, rfl, rfl, rfl, rfl⟩
      · conv => whnf
        refine ASeq.go tab_ok mixed_ ?_
        conv => whnf
        refine XSplit.mk (fun e => ?_) (fun e => ?_)
        · replace h := XSplit.t h e
          conv => whnf
          refine ASeq.joinW tab_ok mixed_ (fun v11 => ⟨[(3, .ptr 0 0), (4, .ptr 1 0), (6, .nils), (10, .int .i64 (IntKind.i64.wrap (a11.tdiv v6.snd.fst))), (11, .int .i64 (a11.tmod v6.snd.fst)), (12, .own 2), (13, .int .i64 (v7.fst)), (14, .int .i64 (v9.fst)), (15, .int .i64 (IntKind.i64.wrap (IntKind.i64.wrap (IntKind.i64.wrap (IntKind.i64.wrap (a11.tdiv v6.snd.fst) * a5) - a7) + v7.fst))), (16, .int .i64 (IntKind.i64.wrap (IntKind.i64.wrap (IntKind.i64.wrap (a11.tmod v6.snd.fst * a6) - a8) + v9.fst))), (30, .int .i64 (v7.fst)), (31, .ptr 1 0), (32, .int .i64 (a3)), (33, .bool (decide (v7.fst < a3))), (36, .int .i64 (v9.fst)), (37, .ptr 1 1), (38, .int .i64 (a4)), (39, .bool (decide (v9.fst < a4))), (42, .int .i64 (IntKind.i64.wrap (a11.tdiv v6.snd.fst))), (43, .ptr 1 2), (44, .int .i64 (a5)), (45, .int .i64 (IntKind.i64.wrap (IntKind.i64.wrap (a11.tdiv v6.snd.fst) * a5))), (46, .ptr 1 4), (47, .int .i64 (a7)), (48, .int .i64 (IntKind.i64.wrap (IntKind.i64.wrap (IntKind.i64.wrap (a11.tdiv v6.snd.fst) * a5) - a7))), (49, .int .i64 (v7.fst)), (50, .int .i64 (IntKind.i64.wrap (IntKind.i64.wrap (IntKind.i64.wrap (IntKind.i64.wrap (a11.tdiv v6.snd.fst) * a5) - a7) + v7.fst))), (51, .int .i64 (a11.tmod v6.snd.fst)), (52, .ptr 1 3), (53, .int .i64 (a6)), (54, .int .i64 (IntKind.i64.wrap (a11.tmod v6.snd.fst * a6))), (55, .ptr 1 5), (56, .int .i64 (a8)), (57, .int .i64 (IntKind.i64.wrap (IntKind.i64.wrap (a11.tmod v6.snd.fst * a6) - a8))), (58, .int .i64 (v9.fst)), (59, .int .i64 (IntKind.i64.wrap (IntKind.i64.wrap (IntKind.i64.wrap (a11.tmod v6.snd.fst * a6) - a8) + v9.fst))), (60, .int .i64 (IntKind.i64.wrap (IntKind.i64.wrap (IntKind.i64.wrap (IntKind.i64.wrap (a11.tdiv v6.snd.fst) * a5) - a7) + v7.fst))), (61, .bool (decide (IntKind.i64.wrap (IntKind.i64.wrap (IntKind.i64.wrap (IntKind.i64.wrap (a11.tdiv v6.snd.fst) * a5) - a7) + v7.fst) < 0))), (62, .bool (decide (IntKind.i64.wrap (IntKind.i64.wrap (IntKind.i64.wrap (IntKind.i64.wrap (a11.tdiv v6.snd.fst) * a5) - a7) + v7.fst) < 0))), (67, .bool (decide (IntKind.i64.wrap (IntKind.i64.wrap (IntKind.i64.wrap (IntKind.i64.wrap (a11.tdiv v6.snd.fst) * a5) - a7) + v7.fst) < 0) || decide (a0 ≤ IntKind.i64.wrap (IntKind.i64.wrap (IntKind.i64.wrap (IntKind.i64.wrap (a11.tdiv v6.snd.fst) * a5) - a7) + v7.fst)))), (68, .bool (decide (IntKind.i64.wrap (IntKind.i64.wrap (IntKind.i64.wrap (IntKind.i64.wrap (a11.tdiv v6.snd.fst) * a5) - a7) + v7.fst) < 0) || decide (a0 ≤ IntKind.i64.wrap (IntKind.i64.wrap (IntKind.i64.wrap (IntKind.i64.wrap (a11.tdiv v6.snd.fst) * a5) - a7) + v7.fst)))), (71, .bool (decide (IntKind.i64.wrap (IntKind.i64.wrap (IntKind.i64.wrap (IntKind.i64.wrap (a11.tdiv v6.snd.fst) * a5) - a7) + v7.fst) < 0) || decide (a0 ≤ IntKind.i64.wrap (IntKind.i64.wrap (IntKind.i64.wrap (IntKind.i64.wrap (a11.tdiv v6.snd.fst) * a5) - a7) + v7.fst)) || decide (IntKind.i64.wrap (IntKind.i64.wrap (IntKind.i64.wrap (a11.tmod v6.snd.fst * a6) - a8) + v9.fst) < 0))), (72, .bool (decide (IntKind.i64.wrap (IntKind.i64.wrap (IntKind.i64.wrap (IntKind.i64.wrap (a11.tdiv v6.snd.fst) * a5) - a7) + v7.fst) < 0) || decide (a0 ≤ IntKind.i64.wrap (IntKind.i64.wrap (IntKind.i64.wrap (IntKind.i64.wrap (a11.tdiv v6.snd.fst) * a5) - a7) + v7.fst)) || decide (IntKind.i64.wrap (IntKind.i64.wrap (IntKind.i64.wrap (a11.tmod v6.snd.fst * a6) - a8) + v9.fst) < 0))), (77, .bool (decide (IntKind.i64.wrap (IntKind.i64.wrap (IntKind.i64.wrap (IntKind.i64.wrap (a11.tdiv v6.snd.fst) * a5) - a7) + v7.fst) < 0) || decide (a0 ≤ IntKind.i64.wrap (IntKind.i64.wrap (IntKind.i64.wrap (IntKind.i64.wrap (a11.tdiv v6.snd.fst) * a5) - a7) + v7.fst)) || decide (IntKind.i64.wrap (IntKind.i64.wrap (IntKind.i64.wrap (a11.tmod v6.snd.fst * a6) - a8) + v9.fst) < 0) || decide (a1 ≤ IntKind.i64.wrap (IntKind.i64.wrap (IntKind.i64.wrap (a11.tmod v6.snd.fst * a6) - a8) + v9.fst))))], [(0, .box 23 [.int .i64 (a0), .int .i64 (a1), .int .i64 (a2)]), (1, .box 45 [.int .i64 (a3), .int .i64 (a4), .int .i64 (a5), .int .i64 (a6), .int .i64 (a7), .int .i64 (a8), .int .i64 (a9), .int .i64 (a10)]), (2, .arr true 3 (v9.snd.fst && false) (v11))], 3, [], []⟩) h (fun Q h => ?_) (fun v11 h => ?_)
          · conv => whnf
            refine XSplit.mk (fun e => ?_) (fun e => ?_)
            · replace h := XSplit.t h e
              conv => whnf
              refine XNeed.mk (XNeed.c h) ?_; replace h := XNeed.x h
              conv => whnf
              refine ⟨_, Weak.a ?_, h⟩; (conv => whnf); exact ⟨rfl, rfl, rfl, rfl, rfl⟩
            · replace h := XSplit.f h e
              conv => whnf
              refine XNeed.mk (XNeed.c h) ?_; replace h := XNeed.x h
              conv => whnf
              refine ⟨_, Weak.a ?_, h⟩; (conv => whnf); exact ⟨rfl, rfl, rfl, rfl, rfl⟩
          · conv => whnf
            refine ⟨_, Weak.a ?_, h⟩; (conv => whnf); exact ⟨rfl, rfl, rfl, rfl, rfl⟩
        · replace h := XSplit.f h e
          conv => whnf
          refine ⟨_, ?_, Weak.a ?_, h⟩; exact rfl; (conv => whnf); exact ⟨rfl, rfl, rfl, rfl, rfl⟩
      · conv => whnf
        refine ⟨_, Weak.a ?_, h⟩; (conv => whnf); exact ⟨rfl, rfl, rfl, rfl, rfl⟩
    · replace h := XSplit.f h e
      conv => whnf
      refine ⟨_, ?_, Weak.a ?_, h⟩; exact rfl; (conv => whnf); exact ⟨rfl, rfl, rfl, rfl, rfl⟩
  · conv => whnf
    refine ⟨_, Weak.a ?_, ?_, h⟩; (conv => whnf); exact ⟨rfl, rfl, rfl, rfl, rfl⟩; exact rfl
theorem c__ref10_Site__Terms {a0 : Int} {a1 : Int} {a2 : Int} {a3 : Int} {a4 : Int} {a5 : Int} {a6 : Int} {a7 : Int} {a8 : Int} {a9 : Int} {a10 : Int} {a11 : Int} {a12 : Bool} {a13 : Rws} {a14 : Bool} {a15 : Rws} {a16 : Int} {a17 : Int} {a18 : Int} {a19 : Int} {a20 : Int} {a21 : Int} {a22 : Int} {a23 : Int} {a24 : Int} {a25 : Int} {a26 : Int} {a27 : Int} {a28 : Int} {a29 : Int} {a30 : Int} {a31 : Int} {Q : Bool × Rws → Prop} {R : AV → List AB → Prop} (h : (g__ref10_Site__Terms a0 a1 a2 a3 a4 a5 a6 a7 a8 a9 a10 a11 a12 a13 a14 a15 a16 a17 a18 a19 a20 a21 a22 a23 a24 a25 a26 a27 a28 a29 a30 a31).run Q) (k : ∀ r, Q r → R (.own 0) ([.arr true 150 (r.fst) (r.snd)])) : ACalls Tryz.prog tab 91 [.agg [.int .i64 (a0), .int .i64 (a1), .int .i64 (a2), .int .i64 (a3), .int .i64 (a4), .int .i64 (a5), .int .i64 (a6), .int .i64 (a7), .int .i64 (a8), .int .i64 (a9), .int .i64 (a10), .int .i64 (a11), .sl (a12) 81 (a13), .sl (a14) 21 (a15), .int .i64 (a16), .int .i64 (a17), .int .i64 (a18), .int .i64 (a19), .int .i64 (a20), .int .i64 (a21), .int .i64 (a22), .int .i64 (a23), .int .i64 (a24), .int .i64 (a25), .int .i64 (a26), .int .i64 (a27), .int .i64 (a28), .int .i64 (a29)], .int .i64 (a30), .int .i64 (a31)] [] R := by
  refine ACalls.out (fun r => .own 0) (fun r => [.arr true 150 (r.fst) (r.snd)]) (Q := Q) (ACalls.introX (mv := mv) tab_ok mixed_ (fn := Tryz.f91) (by kernel_rfl) rfl (by kernel_rfl) (by kernel_rfl) (leB rfl) ?_) (fun v => by first | exact ⟨rfl, leB rfl⟩ | (cases v <;> exact ⟨rfl, leB rfl⟩)) k
  conv => whnf
  refine ACalls.inn (c__ref10_Site__Length (W.bindE h) (fun v10 h => ?_)) ⟨rfl, rfl⟩
  conv => whnf
  refine ASeq.go tab_ok mixed_ ?_
  conv => whnf
  refine XSplit.mk (fun e => ?_) (fun e => ?_)
  · replace h := XSplit.t h e
    conv => whnf
    refine ASeq.go tab_ok mixed_ ?_
    conv => whnf
    refine ALoop.ofW tab_ok mixed_ (fun v11 => ⟨[(1, .int .i64 (a30)), (3, .ptr 0 0), (6, .nils), (7, .own 1), (8, .int .i64 (v10)), (9, .int .i64 (v11.fst))], [(0, .box 76 [.int .i64 (a0), .int .i64 (a1), .int .i64 (a2), .int .i64 (a3), .int .i64 (a4), .int .i64 (a5), .int .i64 (a6), .int .i64 (a7), .int .i64 (a8), .int .i64 (a9), .int .i64 (a10), .int .i64 (a11), .sl (a12) 81 (a13), .sl (a14) 21 (a15), .int .i64 (a16), .int .i64 (a17), .int .i64 (a18), .int .i64 (a19), .int .i64 (a20), .int .i64 (a21), .int .i64 (a22), .int .i64 (a23), .int .i64 (a24), .int .i64 (a25), .int .i64 (a26), .int .i64 (a27), .int .i64 (a28), .int .i64 (a29)]), (1, .arr true 150 (v11.snd.fst) (v11.snd.snd))], 2, [], []⟩) (fun v12 => (.exit 0, ⟨[(6, .nils), (7, .own 0)], [(0, .arr true 150 (v12.fst) (v12.snd))], 1, [], []⟩)) (W.bindE h) (Weak.a ?_) (fun v11 J_ Q h => ?_) (fun v12 h => ?_)
    · conv => whnf
      exact ⟨rfl, rfl, rfl, rfl, rfl⟩
    · conv => whnf
      refine ASeq.go tab_ok mixed_ ?_
      conv => whnf
      refine XSplit.mk (fun e => ?_) (fun e => ?_)
      · replace h := XSplit.t h e
        conv => whnf
        refine ASeq.go tab_ok mixed_ ?_
        conv => whnf
        refine ACalls.inn (c__ref10_Site__weight (W.bindE h) (fun v13 h => ?_)) ⟨rfl, rfl⟩
        conv => whnf
        refine XNeed.mk (XNeed.c h) ?_; replace h := XNeed.x h
        conv => whnf
        refine ⟨_, Weak.a ?_, h⟩; (conv => whnf); exact ⟨rfl, rfl, rfl, rfl, rfl⟩
      · replace h := XSplit.f h e
        conv => whnf
        refine ⟨_, ?_, Weak.a ?_, h⟩; exact rfl; (conv => whnf); exact ⟨rfl, rfl, rfl, rfl, rfl⟩
    · conv => whnf
      refine ⟨_, Weak.a ?_, ?_, h⟩; (conv => whnf); exact ⟨rfl, rfl, rfl, rfl, rfl⟩; exact rfl
  · replace h := XSplit.f h e
    conv => whnf
    refine ACalls.inn (c_ref06_Taps (W.bindE h) (fun v14 h => ?_)) ⟨rfl, rfl⟩
    conv => whnf
    refine ASeq.go tab_ok mixed_ ?_
    conv => whnf
    refine ALoop.ofW tab_ok mixed_ (fun v15 => ⟨[(1, .int .i64 (a30)), (3, .ptr 0 0), (6, .nils), (7, .own 1), (8, .int .i64 (v10)), (10, .own 2), (11, .int .i64 (v15.fst))], [(0, .box 76 [.int .i64 (a0), .int .i64 (a1), .int .i64 (a2), .int .i64 (a3), .int .i64 (a4), .int .i64 (a5), .int .i64 (a6), .int .i64 (a7), .int .i64 (a8), .int .i64 (a9), .int .i64 (a10), .int .i64 (a11), .sl (a12) 81 (a13), .sl (a14) 21 (a15), .int .i64 (a16), .int .i64 (a17), .int .i64 (a18), .int .i64 (a19), .int .i64 (a20), .int .i64 (a21), .int .i64 (a22), .int .i64 (a23), .int .i64 (a24), .int .i64 (a25), .int .i64 (a26), .int .i64 (a27), .int .i64 (a28), .int .i64 (a29)]), (1, .arr true 150 (v15.snd.fst) (v15.snd.snd)), (2, .arr true 3 (v14.fst) (v14.snd))], 3, [], []⟩) (fun v16 => (.exit 2, ⟨[(6, .nils), (7, .own 0)], [(0, .arr true 150 (v16.fst) (v16.snd))], 1, [], []⟩)) (W.bindE h) (Weak.a ?_) (fun v15 J_ Q h => ?_) (fun v16 h => ?_)
    · conv => whnf
      exact ⟨rfl, rfl, rfl, rfl, rfl⟩
    · conv => whnf
      refine ASeq.go tab_ok mixed_ ?_
      conv => whnf
      refine XSplit.mk (fun e => ?_) (fun e => ?_)
      · replace h := XSplit.t h e
        conv => whnf
        refine ASeq.go tab_ok mixed_ ?_
        conv => whnf
        refine ASeq.joinW tab_ok mixed_ (fun v17 => ⟨[(1, .int .i64 (a30)), (3, .ptr 0 0), (6, .nils), (7, .own 1), (8, .int .i64 (v10)), (10, .own 2), (11, .int .i64 (v15.fst)), (12, .int .i64 (v17.fst)), (13, .int .i64 (v17.snd)), (43, .int .i64 (v15.fst)), (44, .int .i64 (v10)), (45, .bool (decide (v15.fst < v10))), (48, .int .i64 (v15.fst)), (49, .int .i64 (a30)), (50, .int .i64 (IntKind.i64.wrap (a30 - 1))), (51, .ptr 0 0), (52, .ptr 0 0), (53, .int .i64 (a0)), (54, .bool (a0 == 2))], [(0, .box 76 [.int .i64 (a0), .int .i64 (a1), .int .i64 (a2), .int .i64 (a3), .int .i64 (a4), .int .i64 (a5), .int .i64 (a6), .int .i64 (a7), .int .i64 (a8), .int .i64 (a9), .int .i64 (a10), .int .i64 (a11), .sl (a12) 81 (a13), .sl (a14) 21 (a15), .int .i64 (a16), .int .i64 (a17), .int .i64 (a18), .int .i64 (a19), .int .i64 (a20), .int .i64 (a21), .int .i64 (a22), .int .i64 (a23), .int .i64 (a24), .int .i64 (a25), .int .i64 (a26), .int .i64 (a27), .int .i64 (a28), .int .i64 (a29)]), (1, .arr true 150 (v15.snd.fst) (v15.snd.snd)), (2, .arr true 3 (v14.fst) (v14.snd))], 3, [], []⟩) h (fun Q h => ?_) (fun v17 h => ?_)
        · conv => whnf
          refine XSplit.mk (fun e => ?_) (fun e => ?_)
          · replace h := XSplit.t h e
            conv => whnf
            refine XDraw.q [0, 1, 2, 3, 4, 5, 6, 7, 8, 9, 10, 11] (by decide +kernel) ?_
            conv => whnf
            refine XNeed.mk (XNeed.c h) ?_; replace h := XNeed.x h
            conv => whnf
            refine XNeed.mk (XNeed.c h) ?_; replace h := XNeed.x h
            conv => whnf
            refine ⟨_, Weak.a ?_, h⟩; (conv => whnf); exact ⟨rfl, rfl, rfl, rfl, rfl⟩
          · replace h := XSplit.f h e
            conv => whnf
            refine ⟨_, Weak.a ?_, h⟩; (conv => whnf); exact ⟨rfl, rfl, rfl, rfl, rfl⟩
        · conv => whnf
          refine ACalls.inn (c__ref10_Site__weight (W.bindE h) (fun v18 h => ?_)) ⟨rfl, rfl⟩
          conv => whnf
          refine ASeq.joinW tab_ok mixed_ (fun v19 => ⟨[(1, .int .i64 (a30)), (3, .ptr 0 0), (6, .nils), (7, .own 1), (8, .int .i64 (v10)), (10, .own 2), (11, .int .i64 (v15.fst)), (12, .int .i64 (v17.fst)), (13, .int .i64 (v17.snd)), (14, .ptr 3 0), (43, .int .i64 (v15.fst)), (44, .int .i64 (v10)), (45, .bool (decide (v15.fst < v10))), (48, .int .i64 (v15.fst)), (49, .int .i64 (a30)), (50, .int .i64 (IntKind.i64.wrap (a30 - 1))), (51, .ptr 0 0), (52, .ptr 0 0), (53, .int .i64 (a0)), (54, .bool (a0 == 2)), (65, .agg [.int .i64 (a0), .int .i64 (a1), .int .i64 (a2), .int .i64 (a3), .int .i64 (a4), .int .i64 (a5), .int .i64 (a6), .int .i64 (a7), .int .i64 (a8), .int .i64 (a9), .int .i64 (a10), .int .i64 (a11), .sl (a12) 81 (a13), .sl (a14) 21 (a15), .int .i64 (a16), .int .i64 (a17), .int .i64 (a18), .int .i64 (a19), .int .i64 (a20), .int .i64 (a21), .int .i64 (a22), .int .i64 (a23), .int .i64 (a24), .int .i64 (a25), .int .i64 (a26), .int .i64 (a27), .int .i64 (a28), .int .i64 (a29)]), (66, .int .i64 (a30)), (67, .int .i64 (v15.fst)), (68, .int .i64 (v18)), (69, .agg [.int .i64 (v18), .int .i64 (-1)]), (70, .own 2), (71, .int .i64 (v17.fst)), (72, .elt 2 (v17.fst.toNat) 0), (73, .int .i64 (ri v14.snd v17.fst.toNat 0)), (74, .bool (decide (0 ≤ ri v14.snd v17.fst.toNat 0)))], [(0, .box 76 [.int .i64 (a0), .int .i64 (a1), .int .i64 (a2), .int .i64 (a3), .int .i64 (a4), .int .i64 (a5), .int .i64 (a6), .int .i64 (a7), .int .i64 (a8), .int .i64 (a9), .int .i64 (a10), .int .i64 (a11), .sl (a12) 81 (a13), .sl (a14) 21 (a15), .int .i64 (a16), .int .i64 (a17), .int .i64 (a18), .int .i64 (a19), .int .i64 (a20), .int .i64 (a21), .int .i64 (a22), .int .i64 (a23), .int .i64 (a24), .int .i64 (a25), .int .i64 (a26), .int .i64 (a27), .int .i64 (a28), .int .i64 (a29)]), (1, .arr true 150 (v15.snd.fst) (v15.snd.snd)), (2, .arr true 3 (v14.fst) (v14.snd)), (3, .box 150 [.int .i64 (v18), .int .i64 (v19)])], 4, [], []⟩) h (fun Q h => ?_) (fun v19 h => ?_)
          · conv => whnf
            refine XNeed.mk (XNeed.c h) ?_; replace h := XNeed.x h
            conv => whnf
            refine XSplit.mk (fun e => ?_) (fun e => ?_)
            · replace h := XSplit.t h e
              conv => whnf
              refine XDraw.d [0, 1, 2, 3, 4, 5, 6, 7, 8, 9, 10, 11] [[], [], [], [], [], [], [], [], [], [], [], [3]] (by decide +kernel) ?_
              conv => whnf
              refine XNeed.mk (XNeed.c h) ?_; replace h := XNeed.x h
              conv => whnf
              refine ⟨_, Weak.a ?_, h⟩; (conv => whnf); exact ⟨rfl, rfl, rfl, rfl, rfl⟩
            · replace h := XSplit.f h e
              conv => whnf
              refine ⟨_, Weak.a ?_, h⟩; (conv => whnf); exact ⟨rfl, rfl, rfl, rfl, rfl⟩
          · conv => whnf
            refine XNeed.mk (XNeed.c h) ?_; replace h := XNeed.x h
            conv => whnf
            refine ⟨_, Weak.a ?_, h⟩; (conv => whnf); exact ⟨rfl, rfl, rfl, rfl, rfl⟩
      · replace h := XSplit.f h e
        conv => whnf
        refine ⟨_, ?_, Weak.a ?_, h⟩; exact rfl; (conv => whnf); exact ⟨rfl, rfl, rfl, rfl, rfl⟩
    · conv => whnf
      refine ⟨_, Weak.a ?_, ?_, h⟩; (conv => whnf); exact ⟨rfl, rfl, rfl, rfl, rfl⟩; exact rfl
theorem c_ref13_Ends {a0 : Int} {a1 : Int} {a2 : Int} {a3 : Int} {a4 : Int} {a5 : Int} {a6 : Int} {a7 : Int} {a8 : Int} {a9 : Int} {a10 : Int} {a11 : Int} {a12 : Bool} {a13 : Rws} {a14 : Bool} {a15 : Rws} {a16 : Int} {a17 : Int} {a18 : Int} {a19 : Int} {a20 : Int} {a21 : Int} {a22 : Int} {a23 : Int} {a24 : Int} {a25 : Int} {a26 : Int} {a27 : Int} {a28 : Int} {a29 : Int} {a30 : Int} {a31 : Int} {a32 : Int} {a33 : Int} {Q : Int × Int → Prop} {R : AV → List AB → Prop} (h : (g_ref13_Ends a0 a1 a2 a3 a4 a5 a6 a7 a8 a9 a10 a11 a12 a13 a14 a15 a16 a17 a18 a19 a20 a21 a22 a23 a24 a25 a26 a27 a28 a29 a30 a31 a32 a33).run Q) (k : ∀ r, Q r → R (.agg [.int .i64 (r.fst), .int .i64 (r.snd)]) ([])) : ACalls Tryz.prog tab 92 [.agg [.int .i64 (a0), .int .i64 (a1), .int .i64 (a2), .int .i64 (a3), .int .i64 (a4), .int .i64 (a5), .int .i64 (a6), .int .i64 (a7), .int .i64 (a8), .int .i64 (a9), .int .i64 (a10), .int .i64 (a11), .sl (a12) 81 (a13), .sl (a14) 21 (a15), .int .i64 (a16), .int .i64 (a17), .int .i64 (a18), .int .i64 (a19), .int .i64 (a20), .int .i64 (a21), .int .i64 (a22), .int .i64 (a23), .int .i64 (a24), .int .i64 (a25), .int .i64 (a26), .int .i64 (a27), .int .i64 (a28), .int .i64 (a29)], .agg [.int .i64 (a30), .int .i64 (a31)], .agg [.int .i64 (a32), .int .i64 (a33)]] [] R := by
  refine ACalls.out (fun r => .agg [.int .i64 (r.fst), .int .i64 (r.snd)]) (fun r => []) (Q := Q) (ACalls.introX (mv := mv) tab_ok mixed_ (fn := Tryz.f92) (by kernel_rfl) rfl (by kernel_rfl) (by kernel_rfl) (leB rfl) ?_) (fun v => by first | exact ⟨rfl, leB rfl⟩ | (cases v <;> exact ⟨rfl, leB rfl⟩)) k
  conv => whnf
  refine XDraw.q [0, 1, 2, 3, 4, 5, 6, 7, 8, 9, 10, 11] (by decide +kernel) ?_
  conv => whnf
  refine ASeq.joinW tab_ok mixed_ (fun v1 => ⟨[(6, .ptr 0 0), (7, .int .i64 (v1.fst)), (8, .int .i64 (v1.snd))], [(0, .box 29 [.int .i64 (0), .int .i64 (0)])], 1, [], []⟩) h (fun Q h => ?_) (fun v1 h => ?_)
  · conv => whnf
    refine XSplit.mk (fun e => ?_) (fun e => ?_)
    · replace h := XSplit.t h e
      conv => whnf
      refine ⟨_, Weak.a ?_, h⟩; (conv => whnf); exact ⟨rfl, rfl, rfl, rfl, rfl⟩
    · replace h := XSplit.f h e
      conv => whnf
      refine ⟨_, Weak.a ?_, h⟩; (conv => whnf); exact ⟨rfl, rfl, rfl, rfl, rfl⟩
  · conv => whnf
    refine ⟨_, Weak.a ?_, ?_, h⟩; (conv => whnf); exact ⟨rfl, rfl, rfl, rfl, rfl⟩; exact rfl
theorem c_ref13_Rows {a0 : Int} {a1 : Int} {a2 : Int} {a3 : Int} {a4 : Int} {a5 : Int} {a6 : Int} {a7 : Int} {a8 : Int} {a9 : Int} {a10 : Int} {a11 : Int} {a12 : Bool} {a13 : Rws} {a14 : Bool} {a15 : Rws} {a16 : Int} {a17 : Int} {a18 : Int} {a19 : Int} {a20 : Int} {a21 : Int} {a22 : Int} {a23 : Int} {a24 : Int} {a25 : Int} {a26 : Int} {a27 : Int} {a28 : Int} {a29 : Int} {a30 : Int} {a31 : Int} {a32 : Int} {Q : Bool × Rws → Prop} {R : AV → List AB → Prop} (h : (g_ref13_Rows a0 a1 a2 a3 a4 a5 a6 a7 a8 a9 a10 a11 a12 a13 a14 a15 a16 a17 a18 a19 a20 a21 a22 a23 a24 a25 a26 a27 a28 a29 a30 a31 a32).run Q) (k : ∀ r, Q r → R (.own 0) ([.arr true 27 (r.fst) (r.snd)])) : ACalls Tryz.prog tab 64 [.agg [.int .i64 (a0), .int .i64 (a1), .int .i64 (a2), .int .i64 (a3), .int .i64 (a4), .int .i64 (a5), .int .i64 (a6), .int .i64 (a7), .int .i64 (a8), .int .i64 (a9), .int .i64 (a10), .int .i64 (a11), .sl (a12) 81 (a13), .sl (a14) 21 (a15), .int .i64 (a16), .int .i64 (a17), .int .i64 (a18), .int .i64 (a19), .int .i64 (a20), .int .i64 (a21), .int .i64 (a22), .int .i64 (a23), .int .i64 (a24), .int .i64 (a25), .int .i64 (a26), .int .i64 (a27), .int .i64 (a28), .int .i64 (a29)], .int .i64 (a30), .agg [.int .i64 (a31), .int .i64 (a32)]] [] R := by
  refine ACalls.out (fun r => .own 0) (fun r => [.arr true 27 (r.fst) (r.snd)]) (Q := Q) (ACalls.introX (mv := mv) tab_ok mixed_ (fn := Tryz.f64) (by kernel_rfl) rfl (by kernel_rfl) (by kernel_rfl) (leB rfl) ?_) (fun v => by first | exact ⟨rfl, leB rfl⟩ | (cases v <;> exact ⟨rfl, leB rfl⟩)) k
  conv => whnf
  refine ASeq.go tab_ok mixed_ ?_
  conv => whnf
  refine ALoop.ofW tab_ok mixed_ (fun v7 => ⟨[(1, .int .i64 (a30)), (3, .ptr 0 0), (5, .ptr 1 0), (6, .nils), (7, .own 2), (8, .int .i64 (v7.fst))], [(0, .box 76 [.int .i64 (a0), .int .i64 (a1), .int .i64 (a2), .int .i64 (a3), .int .i64 (a4), .int .i64 (a5), .int .i64 (a6), .int .i64 (a7), .int .i64 (a8), .int .i64 (a9), .int .i64 (a10), .int .i64 (a11), .sl (a12) 81 (a13), .sl (a14) 21 (a15), .int .i64 (a16), .int .i64 (a17), .int .i64 (a18), .int .i64 (a19), .int .i64 (a20), .int .i64 (a21), .int .i64 (a22), .int .i64 (a23), .int .i64 (a24), .int .i64 (a25), .int .i64 (a26), .int .i64 (a27), .int .i64 (a28), .int .i64 (a29)]), (1, .box 29 [.int .i64 (a31), .int .i64 (a32)]), (2, .arr true 27 (v7.snd.fst) (v7.snd.snd))], 3, [], []⟩) (fun v8 => (.exit 0, ⟨[(6, .nils), (7, .own 0)], [(0, .arr true 27 (v8.fst) (v8.snd))], 1, [], []⟩)) (W.bindE h) (Weak.a ?_) (fun v7 J_ Q h => ?_) (fun v8 h => ?_)
  · conv => whnf
    exact ⟨rfl, rfl, rfl, rfl, rfl⟩
  · conv => whnf
    refine ASeq.go tab_ok mixed_ ?_
    conv => whnf
    refine ACalls.inn (c__ref10_Site__Positions (W.bindE h) (fun v9 h => ?_)) ⟨rfl, rfl⟩
    conv => whnf
    refine XSplit.mk (fun e => ?_) (fun e => ?_)
    · replace h := XSplit.t h e
      conv => whnf
      refine ASeq.go tab_ok mixed_ ?_
      conv => whnf
      refine ASeq.go tab_ok mixed_ ?_
      conv => whnf
      refine ACalls.inn (c__ref10_Site__Terms (W.bindE h) (fun v10 h => ?_)) ⟨rfl, rfl⟩
      conv => whnf
      refine ALoop.ofW tab_ok mixed_ (fun v11 => ⟨[(1, .int .i64 (a30)), (3, .ptr 0 0), (5, .ptr 1 0), (6, .nils), (7, .own 2), (8, .int .i64 (v7.fst)), (9, .own 3), (12, .int .i64 (v7.fst)), (13, .agg [.int .i64 (a0), .int .i64 (a1), .int .i64 (a2), .int .i64 (a3), .int .i64 (a4), .int .i64 (a5), .int .i64 (a6), .int .i64 (a7), .int .i64 (a8), .int .i64 (a9), .int .i64 (a10), .int .i64 (a11), .sl (a12) 81 (a13), .sl (a14) 21 (a15), .int .i64 (a16), .int .i64 (a17), .int .i64 (a18), .int .i64 (a19), .int .i64 (a20), .int .i64 (a21), .int .i64 (a22), .int .i64 (a23), .int .i64 (a24), .int .i64 (a25), .int .i64 (a26), .int .i64 (a27), .int .i64 (a28), .int .i64 (a29)]), (14, .int .i64 (v9)), (15, .bool (decide (v7.fst < v9))), (18, .agg [.int .i64 (a0), .int .i64 (a1), .int .i64 (a2), .int .i64 (a3), .int .i64 (a4), .int .i64 (a5), .int .i64 (a6), .int .i64 (a7), .int .i64 (a8), .int .i64 (a9), .int .i64 (a10), .int .i64 (a11), .sl (a12) 81 (a13), .sl (a14) 21 (a15), .int .i64 (a16), .int .i64 (a17), .int .i64 (a18), .int .i64 (a19), .int .i64 (a20), .int .i64 (a21), .int .i64 (a22), .int .i64 (a23), .int .i64 (a24), .int .i64 (a25), .int .i64 (a26), .int .i64 (a27), .int .i64 (a28), .int .i64 (a29)]), (19, .int .i64 (a30)), (20, .int .i64 (v7.fst)), (21, .own 4), (22, .int .i64 ((↑(List.length v10.snd) : Int))), (23, .int .i64 (v11.fst))], [(0, .box 76 [.int .i64 (a0), .int .i64 (a1), .int .i64 (a2), .int .i64 (a3), .int .i64 (a4), .int .i64 (a5), .int .i64 (a6), .int .i64 (a7), .int .i64 (a8), .int .i64 (a9), .int .i64 (a10), .int .i64 (a11), .sl (a12) 81 (a13), .sl (a14) 21 (a15), .int .i64 (a16), .int .i64 (a17), .int .i64 (a18), .int .i64 (a19), .int .i64 (a20), .int .i64 (a21), .int .i64 (a22), .int .i64 (a23), .int .i64 (a24), .int .i64 (a25), .int .i64 (a26), .int .i64 (a27), .int .i64 (a28), .int .i64 (a29)]), (1, .box 29 [.int .i64 (a31), .int .i64 (a32)]), (2, .arr true 27 (v7.snd.fst) (v7.snd.snd)), (3, .arr true 29 (v11.snd.fst) (v11.snd.snd)), (4, .arr true 150 (v10.fst) (v10.snd))], 5, [], []⟩) (fun v12 => (.exit 2, ⟨[(1, .int .i64 (a30)), (3, .ptr 0 0), (5, .ptr 1 0), (6, .nils), (7, .own 2), (8, .int .i64 (v7.fst)), (9, .own 3), (12, .int .i64 (v7.fst)), (13, .agg [.int .i64 (a0), .int .i64 (a1), .int .i64 (a2), .int .i64 (a3), .int .i64 (a4), .int .i64 (a5), .int .i64 (a6), .int .i64 (a7), .int .i64 (a8), .int .i64 (a9), .int .i64 (a10), .int .i64 (a11), .sl (a12) 81 (a13), .sl (a14) 21 (a15), .int .i64 (a16), .int .i64 (a17), .int .i64 (a18), .int .i64 (a19), .int .i64 (a20), .int .i64 (a21), .int .i64 (a22), .int .i64 (a23), .int .i64 (a24), .int .i64 (a25), .int .i64 (a26), .int .i64 (a27), .int .i64 (a28), .int .i64 (a29)]), (14, .int .i64 (v9)), (15, .bool (decide (v7.fst < v9))), (18, .agg [.int .i64 (a0), .int .i64 (a1), .int .i64 (a2), .int .i64 (a3), .int .i64 (a4), .int .i64 (a5), .int .i64 (a6), .int .i64 (a7), .int .i64 (a8), .int .i64 (a9), .int .i64 (a10), .int .i64 (a11), .sl (a12) 81 (a13), .sl (a14) 21 (a15), .int .i64 (a16), .int .i64 (a17), .int .i64 (a18), .int .i64 (a19), .int .i64 (a20), .int .i64 (a21), .int .i64 (a22), .int .i64 (a23), .int .i64 (a24), .int .i64 (a25), .int .i64 (a26), .int .i64 (a27), .int .i64 (a28), .int .i64 (a29)]), (19, .int .i64 (a30)), (20, .int .i64 (v7.fst)), (21, .own 4), (22, .int .i64 ((↑(List.length v10.snd) : Int))), (23, .int .i64 (v12.fst)), (24, .bool (v12.snd.fst))], [(0, .box 76 [.int .i64 (a0), .int .i64 (a1), .int .i64 (a2), .int .i64 (a3), .int .i64 (a4), .int .i64 (a5), .int .i64 (a6), .int .i64 (a7), .int .i64 (a8), .int .i64 (a9), .int .i64 (a10), .int .i64 (a11), .sl (a12) 81 (a13), .sl (a14) 21 (a15), .int .i64 (a16), .int .i64 (a17), .int .i64 (a18), .int .i64 (a19), .int .i64 (a20), .int .i64 (a21), .int .i64 (a22), .int .i64 (a23), .int .i64 (a24), .int .i64 (a25), .int .i64 (a26), .int .i64 (a27), .int .i64 (a28), .int .i64 (a29)]), (1, .box 29 [.int .i64 (a31), .int .i64 (a32)]), (2, .arr true 27 (v7.snd.fst) (v7.snd.snd)), (3, .arr true 29 (v12.snd.snd.fst) (v12.snd.snd.snd)), (4, .arr true 150 (v10.fst) (v10.snd))], 5, [], []⟩)) (W.bindE h) (Weak.a ?_) (fun v11 J_ Q h => ?_) (fun v12 h => ?_)
      · conv => whnf
        exact ⟨rfl, rfl, rfl, rfl, rfl⟩
      · conv => whnf
        refine ASeq.go tab_ok mixed_ ?_
        conv => whnf
        refine XSplit.mk (fun e => ?_) (fun e => ?_)
        · replace h := XSplit.t h e
          conv => whnf
          refine ASeq.go tab_ok mixed_ ?_
          conv => whnf
          refine XNeed.mk (XNeed.c h) ?_; replace h := XNeed.x h
          conv => whnf
          refine ACalls.inn (c_ref13_Ends (W.bindE h) (fun v13 h => ?_)) ⟨rfl, rfl⟩
          conv => whnf
          refine XNeed.mk (XNeed.c h) ?_; replace h := XNeed.x h
          conv => whnf
          refine ⟨_, Weak.a ?_, h⟩; (conv => whnf); exact ⟨rfl, rfl, rfl, rfl, rfl⟩
        · replace h := XSplit.f h e
          conv => whnf
          refine ⟨_, ?_, Weak.a ?_, h⟩; exact rfl; (conv => whnf); exact ⟨rfl, rfl, rfl, rfl, rfl⟩
      · conv => whnf
        refine XNeed.mk (XNeed.c h) ?_; replace h := XNeed.x h
        conv => whnf
        refine ⟨_, Weak.a ?_, h⟩; (conv => whnf); exact ⟨rfl, rfl, rfl, rfl, rfl⟩
    · replace h := XSplit.f h e
      conv => whnf
      refine ⟨_, ?_, Weak.a ?_, h⟩; exact rfl; (conv => whnf); exact ⟨rfl, rfl, rfl, rfl, rfl⟩
  · conv => whnf
    refine ⟨_, Weak.a ?_, ?_, h⟩; (conv => whnf); exact ⟨rfl, rfl, rfl, rfl, rfl⟩; exact rfl
theorem c__ref10_Site__Bias {a0 : Int} {a1 : Int} {a2 : Int} {a3 : Int} {a4 : Int} {a5 : Int} {a6 : Int} {a7 : Int} {a8 : Int} {a9 : Int} {a10 : Int} {a11 : Int} {a12 : Bool} {a13 : Rws} {a14 : Bool} {a15 : Rws} {a16 : Int} {a17 : Int} {a18 : Int} {a19 : Int} {a20 : Int} {a21 : Int} {a22 : Int} {a23 : Int} {a24 : Int} {a25 : Int} {a26 : Int} {a27 : Int} {a28 : Int} {a29 : Int} {a30 : Int} {Q : Int → Prop} {R : AV → List AB → Prop} (h : (g__ref10_Site__Bias a0 a1 a2 a3 a4 a5 a6 a7 a8 a9 a10 a11 a12 a13 a14 a15 a16 a17 a18 a19 a20 a21 a22 a23 a24 a25 a26 a27 a28 a29 a30).run Q) (k : ∀ r, Q r → R (.int .i64 (r)) ([])) : ACalls Tryz.prog tab 93 [.agg [.int .i64 (a0), .int .i64 (a1), .int .i64 (a2), .int .i64 (a3), .int .i64 (a4), .int .i64 (a5), .int .i64 (a6), .int .i64 (a7), .int .i64 (a8), .int .i64 (a9), .int .i64 (a10), .int .i64 (a11), .sl (a12) 81 (a13), .sl (a14) 21 (a15), .int .i64 (a16), .int .i64 (a17), .int .i64 (a18), .int .i64 (a19), .int .i64 (a20), .int .i64 (a21), .int .i64 (a22), .int .i64 (a23), .int .i64 (a24), .int .i64 (a25), .int .i64 (a26), .int .i64 (a27), .int .i64 (a28), .int .i64 (a29)], .int .i64 (a30)] [] R := by
  refine ACalls.out (fun r => .int .i64 (r)) (fun r => []) (Q := Q) (ACalls.introX (mv := mv) tab_ok mixed_ (fn := Tryz.f93) (by kernel_rfl) rfl (by kernel_rfl) (by kernel_rfl) (leB rfl) ?_) (fun v => by first | exact ⟨rfl, leB rfl⟩ | (cases v <;> exact ⟨rfl, leB rfl⟩)) k
  conv => whnf
  refine ASeq.go tab_ok mixed_ ?_
  conv => whnf
  refine XSplit.mk (fun e => ?_) (fun e => ?_)
  · replace h := XSplit.t h e
    conv => whnf
    refine ⟨_, Weak.a ?_, ?_, h⟩; (conv => whnf); exact ⟨rfl, rfl, rfl, rfl, rfl⟩; exact rfl
  · replace h := XSplit.f h e
    conv => whnf
    refine XNeed.mk (XNeed.c h) ?_; replace h := XNeed.x h
    conv => whnf
    refine ⟨_, Weak.a ?_, ?_, h⟩; (conv => whnf); exact ⟨rfl, rfl, rfl, rfl, rfl⟩; exact rfl
theorem c_ref13_begin {a0 : Int} {a1 : Int} {a2 : Int} {a3 : Int} {a4 : Int} {a5 : Int} {a6 : Int} {a7 : Int} {a8 : Int} {a9 : Int} {a10 : Int} {a11 : Int} {a12 : Bool} {a13 : Rws} {a14 : Bool} {a15 : Rws} {a16 : Int} {a17 : Int} {a18 : Int} {a19 : Int} {a20 : Int} {a21 : Int} {a22 : Int} {a23 : Int} {a24 : Int} {a25 : Int} {a26 : Int} {a27 : Int} {a28 : Int} {a29 : Int} {a30 : Int} {Q : Int × Int → Prop} {R : AV → List AB → Prop} (h : (g_ref13_begin a0 a1 a2 a3 a4 a5 a6 a7 a8 a9 a10 a11 a12 a13 a14 a15 a16 a17 a18 a19 a20 a21 a22 a23 a24 a25 a26 a27 a28 a29 a30).run Q) (k : ∀ r, Q r → R (.agg [.int .i64 (r.fst), .int .i64 (r.snd)]) ([])) : ACalls Tryz.prog tab 65 [.agg [.int .i64 (a0), .int .i64 (a1), .int .i64 (a2), .int .i64 (a3), .int .i64 (a4), .int .i64 (a5), .int .i64 (a6), .int .i64 (a7), .int .i64 (a8), .int .i64 (a9), .int .i64 (a10), .int .i64 (a11), .sl (a12) 81 (a13), .sl (a14) 21 (a15), .int .i64 (a16), .int .i64 (a17), .int .i64 (a18), .int .i64 (a19), .int .i64 (a20), .int .i64 (a21), .int .i64 (a22), .int .i64 (a23), .int .i64 (a24), .int .i64 (a25), .int .i64 (a26), .int .i64 (a27), .int .i64 (a28), .int .i64 (a29)], .int .i64 (a30)] [] R := by
  refine ACalls.out (fun r => .agg [.int .i64 (r.fst), .int .i64 (r.snd)]) (fun r => []) (Q := Q) (ACalls.introX (mv := mv) tab_ok mixed_ (fn := Tryz.f65) (by kernel_rfl) rfl (by kernel_rfl) (by kernel_rfl) (leB rfl) ?_) (fun v => by first | exact ⟨rfl, leB rfl⟩ | (cases v <;> exact ⟨rfl, leB rfl⟩)) k
  conv => whnf
  refine XDraw.d [0, 1, 3, 4, 2, 5, 6, 7] [[], [], [], [], [], [], [], [1]] (by decide +kernel) ?_
  conv => whnf
  refine ACalls.inn (c__ref10_Site__Bias (W.bindE h) (fun v2 h => ?_)) ⟨rfl, rfl⟩
  conv => whnf
  refine ACalls.inn (c__ref10_Site__Bias (W.bindE h) (fun v3 h => ?_)) ⟨rfl, rfl⟩
  conv => whnf
  refine ⟨_, Weak.a ?_, ?_, h⟩; (conv => whnf); exact ⟨rfl, rfl, rfl, rfl, rfl⟩; exact rfl
theorem c_ref13_plus {a0 : Int} {a1 : Int} {a2 : Int} {a3 : Int} {Q : Int × Int → Prop} {R : AV → List AB → Prop} (h : (g_ref13_plus a0 a1 a2 a3).run Q) (k : ∀ r, Q r → R (.agg [.int .i64 (r.fst), .int .i64 (r.snd)]) ([])) : ACalls Tryz.prog tab 66 [.agg [.int .i64 (a0), .int .i64 (a1)], .agg [.int .i64 (a2), .int .i64 (a3)]] [] R := by
  refine ACalls.out (fun r => .agg [.int .i64 (r.fst), .int .i64 (r.snd)]) (fun r => []) (Q := Q) (ACalls.introX (mv := mv) tab_ok mixed_ (fn := Tryz.f66) (by kernel_rfl) rfl (by kernel_rfl) (by kernel_rfl) (leB rfl) ?_) (fun v => by first | exact ⟨rfl, leB rfl⟩ | (cases v <;> exact ⟨rfl, leB rfl⟩)) k
  conv => whnf
  refine ⟨_, Weak.a ?_, ?_, h⟩; (conv => whnf); exact ⟨rfl, rfl, rfl, rfl, rfl⟩; exact rfl
theorem c___ref13_Hull__take_p {a0 : Int} {a1 : Int} {a2 : Int} {a3 : Int} {a4 : Bool} {Q : Int × Int × Bool → Prop} {R : AV → List AB → Prop} (h : (g___ref13_Hull__take_p a0 a1 a2 a3 a4).run Q) (k : ∀ r, Q r → R (.tup []) ([.box 114 [.int .i64 (r.fst), .int .i64 (r.snd.fst), .bool (r.snd.snd)]])) : ACalls Tryz.prog tab 67 [.ptr 0 0, .agg [.int .i64 (a0), .int .i64 (a1)]] [.box 114 [.int .i64 (a2), .int .i64 (a3), .bool (a4)]] R := by
  refine ACalls.out (fun r => .tup []) (fun r => [.box 114 [.int .i64 (r.fst), .int .i64 (r.snd.fst), .bool (r.snd.snd)]]) (Q := Q) (ACalls.introX (mv := mv) tab_ok mixed_ (fn := Tryz.f67) (by kernel_rfl) rfl (by kernel_rfl) (by kernel_rfl) (leB rfl) ?_) (fun v => by first | exact ⟨rfl, leB rfl⟩ | (cases v <;> exact ⟨rfl, leB rfl⟩)) k
  conv => whnf
  refine ASeq.go tab_ok mixed_ ?_
  conv => whnf
  refine XSplit.mk (fun e => ?_) (fun e => ?_)
  · replace h := XSplit.t h e
    conv => whnf
    refine ⟨_, Weak.a ?_, ?_, h⟩; (conv => whnf); exact ⟨rfl, rfl, rfl, rfl, rfl⟩; exact rfl
  · replace h := XSplit.f h e
    conv => whnf
    refine XDraw.d [0, 1, 2, 3, 4, 5, 6, 7, 8, 9, 10, 11, 12] [[], [], [], [], [], [], [], [], [], [], [], [], [0]] (by decide +kernel) ?_
    conv => whnf
    refine XDraw.d [0, 1, 2, 3, 4, 5, 6, 7, 8, 9, 10, 11, 12] [[], [], [], [], [], [], [], [], [], [], [], [], [0]] (by decide +kernel) ?_
    conv => whnf
    refine ⟨_, Weak.a ?_, ?_, h⟩; (conv => whnf); exact ⟨rfl, rfl, rfl, rfl, rfl⟩; exact rfl
theorem c_ref13_Total {a0 : Int} {a1 : Int} {a2 : Int} {a3 : Int} {a4 : Int} {a5 : Int} {a6 : Int} {a7 : Int} {a8 : Int} {a9 : Int} {a10 : Int} {a11 : Int} {a12 : Bool} {a13 : Rws} {a14 : Bool} {a15 : Rws} {a16 : Int} {a17 : Int} {a18 : Int} {a19 : Int} {a20 : Int} {a21 : Int} {a22 : Int} {a23 : Int} {a24 : Int} {a25 : Int} {a26 : Int} {a27 : Int} {a28 : Int} {a29 : Int} {a30 : Int} {a31 : Int} {a32 : Int} {Q : Int × Int → Prop} {R : AV → List AB → Prop} (h : (g_ref13_Total a0 a1 a2 a3 a4 a5 a6 a7 a8 a9 a10 a11 a12 a13 a14 a15 a16 a17 a18 a19 a20 a21 a22 a23 a24 a25 a26 a27 a28 a29 a30 a31 a32).run Q) (k : ∀ r, Q r → R (.agg [.int .i64 (r.fst), .int .i64 (r.snd)]) ([])) : ACalls Tryz.prog tab 34 [.agg [.int .i64 (a0), .int .i64 (a1), .int .i64 (a2), .int .i64 (a3), .int .i64 (a4), .int .i64 (a5), .int .i64 (a6), .int .i64 (a7), .int .i64 (a8), .int .i64 (a9), .int .i64 (a10), .int .i64 (a11), .sl (a12) 81 (a13), .sl (a14) 21 (a15), .int .i64 (a16), .int .i64 (a17), .int .i64 (a18), .int .i64 (a19), .int .i64 (a20), .int .i64 (a21), .int .i64 (a22), .int .i64 (a23), .int .i64 (a24), .int .i64 (a25), .int .i64 (a26), .int .i64 (a27), .int .i64 (a28), .int .i64 (a29)], .int .i64 (a30), .agg [.int .i64 (a31), .int .i64 (a32)]] [] R := by
  refine ACalls.out (fun r => .agg [.int .i64 (r.fst), .int .i64 (r.snd)]) (fun r => []) (Q := Q) (ACalls.introX (mv := mv) tab_ok mixed_ (fn := Tryz.f34) (by kernel_rfl) rfl (by kernel_rfl) (by kernel_rfl) (leB rfl) ?_) (fun v => by first | exact ⟨rfl, leB rfl⟩ | (cases v <;> exact ⟨rfl, leB rfl⟩)) k
  conv => whnf
  refine ASeq.go tab_ok mixed_ ?_
  conv => whnf
  refine ACalls.inn (c_ref13_Rows (W.bindE h) (fun v8 h => ?_)) ⟨rfl, rfl⟩
  conv => whnf
  refine ALoop.ofW tab_ok mixed_ (fun v9 => ⟨[(1, .int .i64 (a30)), (3, .ptr 0 0), (6, .ptr 1 0), (7, .ptr 2 0), (16, .own 3), (17, .int .i64 ((↑(List.length v8.snd) : Int))), (18, .int .i64 (v9.fst))], [(0, .box 76 [.int .i64 (a0), .int .i64 (a1), .int .i64 (a2), .int .i64 (a3), .int .i64 (a4), .int .i64 (a5), .int .i64 (a6), .int .i64 (a7), .int .i64 (a8), .int .i64 (a9), .int .i64 (a10), .int .i64 (a11), .sl (a12) 81 (a13), .sl (a14) 21 (a15), .int .i64 (a16), .int .i64 (a17), .int .i64 (a18), .int .i64 (a19), .int .i64 (a20), .int .i64 (a21), .int .i64 (a22), .int .i64 (a23), .int .i64 (a24), .int .i64 (a25), .int .i64 (a26), .int .i64 (a27), .int .i64 (a28), .int .i64 (a29)]), (1, .box 29 [.int .i64 (0), .int .i64 (0)]), (2, .box 114 [.int .i64 (v9.snd.fst), .int .i64 (v9.snd.snd.fst), .bool (v9.snd.snd.snd)]), (3, .arr true 27 (v8.fst) (v8.snd))], 4, [], []⟩) (fun v10 => (.exit 0, ⟨[(6, .ptr 0 0), (7, .ptr 1 0)], [(0, .box 29 [.int .i64 (0), .int .i64 (0)]), (1, .box 114 [.int .i64 (v10.fst), .int .i64 (v10.snd.fst), .bool (v10.snd.snd)])], 2, [], []⟩)) (W.bindE h) (Weak.a ?_) (fun v9 J_ Q h => ?_) (fun v10 h => ?_)
  · conv => whnf
    exact ⟨rfl, rfl, rfl, rfl, rfl⟩
  · conv => whnf
    refine ASeq.go tab_ok mixed_ ?_
    conv => whnf
    refine XSplit.mk (fun e => ?_) (fun e => ?_)
    · replace h := XSplit.t h e
      conv => whnf
      refine ASeq.go tab_ok mixed_ ?_
      conv => whnf
      refine XNeed.mk (XNeed.c h) ?_; replace h := XNeed.x h
      conv => whnf
      refine ACalls.inn (c_ref13_begin (W.bindE h) (fun v11 h => ?_)) ⟨rfl, rfl⟩
      conv => whnf
      refine ASeq.go tab_ok mixed_ ?_
      conv => whnf
      refine ALoop.ofW tab_ok mixed_ (fun v12 => ⟨[(1, .int .i64 (a30)), (3, .ptr 0 0), (6, .ptr 1 0), (7, .ptr 2 0), (9, .sl (rn v8.snd v9.fst.toNat 0) 29 (rr v8.snd v9.fst.toNat 0)), (10, .ptr 3 0), (16, .own 4), (17, .int .i64 ((↑(List.length v8.snd) : Int))), (18, .int .i64 (v9.fst)), (19, .bool (decide (v9.fst < (↑(List.length v8.snd) : Int)))), (20, .elt 4 (v9.fst.toNat) 0), (21, .sl (rn v8.snd v9.fst.toNat 0) 29 (rr v8.snd v9.fst.toNat 0)), (22, .agg [.int .i64 (a0), .int .i64 (a1), .int .i64 (a2), .int .i64 (a3), .int .i64 (a4), .int .i64 (a5), .int .i64 (a6), .int .i64 (a7), .int .i64 (a8), .int .i64 (a9), .int .i64 (a10), .int .i64 (a11), .sl (a12) 81 (a13), .sl (a14) 21 (a15), .int .i64 (a16), .int .i64 (a17), .int .i64 (a18), .int .i64 (a19), .int .i64 (a20), .int .i64 (a21), .int .i64 (a22), .int .i64 (a23), .int .i64 (a24), .int .i64 (a25), .int .i64 (a26), .int .i64 (a27), .int .i64 (a28), .int .i64 (a29)]), (23, .int .i64 (a30)), (24, .agg [.int .i64 (v11.fst), .int .i64 (v11.snd)]), (25, .sl (rn v8.snd v9.fst.toNat 0) 29 (rr v8.snd v9.fst.toNat 0)), (26, .int .i64 ((↑(List.length (rr v8.snd v9.fst.toNat 0)) : Int))), (27, .int .i64 (v12.fst))], [(0, .box 76 [.int .i64 (a0), .int .i64 (a1), .int .i64 (a2), .int .i64 (a3), .int .i64 (a4), .int .i64 (a5), .int .i64 (a6), .int .i64 (a7), .int .i64 (a8), .int .i64 (a9), .int .i64 (a10), .int .i64 (a11), .sl (a12) 81 (a13), .sl (a14) 21 (a15), .int .i64 (a16), .int .i64 (a17), .int .i64 (a18), .int .i64 (a19), .int .i64 (a20), .int .i64 (a21), .int .i64 (a22), .int .i64 (a23), .int .i64 (a24), .int .i64 (a25), .int .i64 (a26), .int .i64 (a27), .int .i64 (a28), .int .i64 (a29)]), (1, .box 29 [.int .i64 (0), .int .i64 (0)]), (2, .box 114 [.int .i64 (v9.snd.fst), .int .i64 (v9.snd.snd.fst), .bool (v9.snd.snd.snd)]), (3, .box 29 [.int .i64 (v12.snd.fst), .int .i64 (v12.snd.snd)]), (4, .arr true 27 (v8.fst) (v8.snd))], 5, [], []⟩) (fun v13 => (.exit 2, ⟨[(1, .int .i64 (a30)), (3, .ptr 0 0), (6, .ptr 1 0), (7, .ptr 2 0), (9, .sl (rn v8.snd v9.fst.toNat 0) 29 (rr v8.snd v9.fst.toNat 0)), (10, .ptr 3 0), (16, .own 4), (17, .int .i64 ((↑(List.length v8.snd) : Int))), (18, .int .i64 (v9.fst)), (19, .bool (decide (v9.fst < (↑(List.length v8.snd) : Int)))), (20, .elt 4 (v9.fst.toNat) 0), (21, .sl (rn v8.snd v9.fst.toNat 0) 29 (rr v8.snd v9.fst.toNat 0)), (22, .agg [.int .i64 (a0), .int .i64 (a1), .int .i64 (a2), .int .i64 (a3), .int .i64 (a4), .int .i64 (a5), .int .i64 (a6), .int .i64 (a7), .int .i64 (a8), .int .i64 (a9), .int .i64 (a10), .int .i64 (a11), .sl (a12) 81 (a13), .sl (a14) 21 (a15), .int .i64 (a16), .int .i64 (a17), .int .i64 (a18), .int .i64 (a19), .int .i64 (a20), .int .i64 (a21), .int .i64 (a22), .int .i64 (a23), .int .i64 (a24), .int .i64 (a25), .int .i64 (a26), .int .i64 (a27), .int .i64 (a28), .int .i64 (a29)]), (23, .int .i64 (a30)), (24, .agg [.int .i64 (v11.fst), .int .i64 (v11.snd)]), (25, .sl (rn v8.snd v9.fst.toNat 0) 29 (rr v8.snd v9.fst.toNat 0)), (26, .int .i64 ((↑(List.length (rr v8.snd v9.fst.toNat 0)) : Int))), (27, .int .i64 (v13.fst)), (28, .bool (v13.snd.fst))], [(0, .box 76 [.int .i64 (a0), .int .i64 (a1), .int .i64 (a2), .int .i64 (a3), .int .i64 (a4), .int .i64 (a5), .int .i64 (a6), .int .i64 (a7), .int .i64 (a8), .int .i64 (a9), .int .i64 (a10), .int .i64 (a11), .sl (a12) 81 (a13), .sl (a14) 21 (a15), .int .i64 (a16), .int .i64 (a17), .int .i64 (a18), .int .i64 (a19), .int .i64 (a20), .int .i64 (a21), .int .i64 (a22), .int .i64 (a23), .int .i64 (a24), .int .i64 (a25), .int .i64 (a26), .int .i64 (a27), .int .i64 (a28), .int .i64 (a29)]), (1, .box 29 [.int .i64 (0), .int .i64 (0)]), (2, .box 114 [.int .i64 (v9.snd.fst), .int .i64 (v9.snd.snd.fst), .bool (v9.snd.snd.snd)]), (3, .box 29 [.int .i64 (v13.snd.snd.fst), .int .i64 (v13.snd.snd.snd)]), (4, .arr true 27 (v8.fst) (v8.snd))], 5, [], []⟩)) (W.bindE h) (Weak.a ?_) (fun v12 J_ Q h => ?_) (fun v13 h => ?_)
      · conv => whnf
        exact ⟨rfl, rfl, rfl, rfl, rfl⟩
      · conv => whnf
        refine ASeq.go tab_ok mixed_ ?_
        conv => whnf
        refine XSplit.mk (fun e => ?_) (fun e => ?_)
        · replace h := XSplit.t h e
          conv => whnf
          refine ASeq.go tab_ok mixed_ ?_
          conv => whnf
          refine XNeed.mk (XNeed.c h) ?_; replace h := XNeed.x h
          conv => whnf
          refine ACalls.inn (c_ref13_plus (W.bindE h) (fun v14 h => ?_)) ⟨rfl, rfl⟩
          conv => whnf
          refine ⟨_, Weak.a ?_, h⟩; (conv => whnf); exact ⟨rfl, rfl, rfl, rfl, rfl⟩
        · replace h := XSplit.f h e
          conv => whnf
          refine ⟨_, ?_, Weak.a ?_, h⟩; exact rfl; (conv => whnf); exact ⟨rfl, rfl, rfl, rfl, rfl⟩
      · conv => whnf
        refine ACalls.inn (c___ref13_Hull__take_p (W.bindE h) (fun v15 h => ?_)) ⟨rfl, rfl⟩
        conv => whnf
        refine ⟨_, Weak.a ?_, h⟩; (conv => whnf); exact ⟨rfl, rfl, rfl, rfl, rfl⟩
    · replace h := XSplit.f h e
      conv => whnf
      refine ⟨_, ?_, Weak.a ?_, h⟩; exact rfl; (conv => whnf); exact ⟨rfl, rfl, rfl, rfl, rfl⟩
  · conv => whnf
    refine ⟨_, Weak.a ?_, ?_, h⟩; (conv => whnf); exact ⟨rfl, rfl, rfl, rfl, rfl⟩; exact rfl
theorem c_ref02_Mean {a0 : Int} {a1 : Int} {Q : Int × Int → Prop} {R : AV → List AB → Prop} (h : (g_ref02_Mean a0 a1).run Q) (k : ∀ r, Q r → R (.tup [.int .i64 (r.fst), .int .i64 (r.snd)]) ([])) : ACalls Tryz.prog tab 68 [.int .i64 (a0), .int .i64 (a1)] [] R := by
  refine ACalls.out (fun r => .tup [.int .i64 (r.fst), .int .i64 (r.snd)]) (fun r => []) (Q := Q) (ACalls.introX (mv := mv) tab_ok mixed_ (fn := Tryz.f68) (by kernel_rfl) rfl (by kernel_rfl) (by kernel_rfl) (leB rfl) ?_) (fun v => by first | exact ⟨rfl, leB rfl⟩ | (cases v <;> exact ⟨rfl, leB rfl⟩)) k
  conv => whnf
  refine ASeq.go tab_ok mixed_ ?_
  conv => whnf
  refine XSplit.mk (fun e => ?_) (fun e => ?_)
  · replace h := XSplit.t h e
    conv => whnf
    refine ⟨_, Weak.a ?_, ?_, h⟩; (conv => whnf); exact ⟨rfl, rfl, rfl, rfl, rfl⟩; exact rfl
  · replace h := XSplit.f h e
    conv => whnf
    refine ACalls.inn (c_ref01_Size (W.bindE h) (fun v3 h => ?_)) ⟨rfl, rfl⟩
    conv => whnf
    refine ACalls.inn (c_ref02_half (W.bindE h) (fun v4 h => ?_)) ⟨rfl, rfl⟩
    conv => whnf
    refine ACalls.inn (c_ref02_back (W.bindE h) (fun v5 h => ?_)) ⟨rfl, rfl⟩
    conv => whnf
    refine ⟨_, Weak.a ?_, ?_, h⟩; (conv => whnf); exact ⟨rfl, rfl, rfl, rfl, rfl⟩; exact rfl
theorem c_ref11_Home {a0 : Int} {a1 : Int} {a2 : Int} {a3 : Int} {a4 : Int} {a5 : Int} {a6 : Int} {a7 : Int} {a8 : Int} {a9 : Int} {a10 : Int} {a11 : Int} {a12 : Bool} {a13 : Rws} {a14 : Bool} {a15 : Rws} {a16 : Int} {a17 : Int} {a18 : Int} {a19 : Int} {a20 : Int} {a21 : Int} {a22 : Int} {a23 : Int} {a24 : Int} {a25 : Int} {Q : Int → Prop} {R : AV → List AB → Prop} (h : (g_ref11_Home a0 a1 a2 a3 a4 a5 a6 a7 a8 a9 a10 a11 a12 a13 a14 a15 a16 a17 a18 a19 a20 a21 a22 a23 a24 a25).run Q) (k : ∀ r, Q r → R (.int .i8 (r)) ([])) : ACalls Tryz.prog tab 35 [.agg [.int .i64 (a0), .int .i64 (a1), .int .i64 (a2), .int .i64 (a3), .int .i64 (a4), .int .i64 (a5), .int .i64 (a6), .int .i64 (a7), .int .i64 (a8), .int .i64 (a9), .int .i64 (a10), .int .i64 (a11), .sl (a12) 81 (a13), .sl (a14) 21 (a15), .int .i64 (a16), .int .i64 (a17), .int .i64 (a18), .int .i64 (a19), .int .i64 (a20), .int .i64 (a21), .int .i64 (a22), .int .i64 (a23)], .int .i64 (a24), .int .i64 (a25)] [] R := by
  refine ACalls.out (fun r => .int .i8 (r)) (fun r => []) (Q := Q) (ACalls.introX (mv := mv) tab_ok mixed_ (fn := Tryz.f35) (by kernel_rfl) rfl (by kernel_rfl) (by kernel_rfl) (leB rfl) ?_) (fun v => by first | exact ⟨rfl, leB rfl⟩ | (cases v <;> exact ⟨rfl, leB rfl⟩)) k
  conv => whnf
  refine ASeq.joinW tab_ok mixed_ (fun v4 => ⟨[(3, .ptr 0 0), (6, .int .i8 (0)), (7, .int .i64 (v4.fst)), (8, .int .i64 (v4.snd))], [(0, .box 51 [.int .i64 (a0), .int .i64 (a1), .int .i64 (a2), .int .i64 (a3), .int .i64 (a4), .int .i64 (a5), .int .i64 (a6), .int .i64 (a7), .int .i64 (a8), .int .i64 (a9), .int .i64 (a10), .int .i64 (a11), .sl (a12) 81 (a13), .sl (a14) 21 (a15), .int .i64 (a16), .int .i64 (a17), .int .i64 (a18), .int .i64 (a19), .int .i64 (a20), .int .i64 (a21), .int .i64 (a22), .int .i64 (a23)])], 1, [], []⟩) h (fun Q h => ?_) (fun v4 h => ?_)
  · conv => whnf
    refine XSplit.mk (fun e => ?_) (fun e => ?_)
    · replace h := XSplit.t h e
      conv => whnf
      refine ACalls.inn (c_ref02_Mean (W.bindE h) (fun v5 h => ?_)) ⟨rfl, rfl⟩
      conv => whnf
      refine ⟨_, Weak.a ?_, h⟩; (conv => whnf); exact ⟨rfl, rfl, rfl, rfl, rfl⟩
    · replace h := XSplit.f h e
      conv => whnf
      refine ACalls.inn (c_ref02_Apply (W.bindE h) (fun v6 h => ?_)) ⟨rfl, rfl⟩
      conv => whnf
      refine ⟨_, Weak.a ?_, h⟩; (conv => whnf); exact ⟨rfl, rfl, rfl, rfl, rfl⟩
  · conv => whnf
    refine ACalls.inn (c_ref02_Finish (W.bindE h) (fun v7 h => ?_)) ⟨rfl, rfl⟩
    conv => whnf
    refine ⟨_, Weak.a ?_, ?_, h⟩; (conv => whnf); exact ⟨rfl, rfl, rfl, rfl, rfl⟩; exact rfl
theorem c_ref14_Comes {a0 : Int} {a1 : Int} {a2 : Int} {a3 : Int} {a4 : Int} {a5 : Int} {a6 : Int} {a7 : Int} {a8 : Int} {a9 : Int} {a10 : Int} {a11 : Int} {a12 : Bool} {a13 : Rws} {a14 : Bool} {a15 : Rws} {a16 : Int} {a17 : Int} {a18 : Int} {a19 : Int} {a20 : Int} {a21 : Int} {a22 : Int} {a23 : Int} {a24 : Int} {a25 : Int} {a26 : Int} {a27 : Int} {a28 : Int} {a29 : Int} {a30 : Int} {a31 : Int} {a32 : Int} {a33 : Int} {Q : Int × Int → Prop} {R : AV → List AB → Prop} (h : (g_ref14_Comes a0 a1 a2 a3 a4 a5 a6 a7 a8 a9 a10 a11 a12 a13 a14 a15 a16 a17 a18 a19 a20 a21 a22 a23 a24 a25 a26 a27 a28 a29 a30 a31 a32 a33).run Q) (k : ∀ r, Q r → R (.agg [.int .i64 (r.fst), .int .i64 (r.snd)]) ([])) : ACalls Tryz.prog tab 17 [.agg [.int .i64 (a0), .int .i64 (a1), .int .i64 (a2), .int .i64 (a3), .int .i64 (a4), .int .i64 (a5), .int .i64 (a6), .int .i64 (a7), .int .i64 (a8), .int .i64 (a9), .int .i64 (a10), .int .i64 (a11), .sl (a12) 81 (a13), .sl (a14) 21 (a15), .int .i64 (a16), .int .i64 (a17), .int .i64 (a18), .int .i64 (a19), .int .i64 (a20), .int .i64 (a21), .int .i64 (a22), .int .i64 (a23)], .agg [.int .i64 (a24), .int .i64 (a25), .int .i64 (a26)], .agg [.int .i64 (a27), .int .i64 (a28), .int .i64 (a29)], .agg [.int .i64 (a30), .int .i64 (a31)], .agg [.int .i64 (a32), .int .i64 (a33)]] [] R := by
  refine ACalls.out (fun r => .agg [.int .i64 (r.fst), .int .i64 (r.snd)]) (fun r => []) (Q := Q) (ACalls.introX (mv := mv) tab_ok mixed_ (fn := Tryz.f17) (by kernel_rfl) rfl (by kernel_rfl) (by kernel_rfl) (leB rfl) ?_) (fun v => by first | exact ⟨rfl, leB rfl⟩ | (cases v <;> exact ⟨rfl, leB rfl⟩)) k
  conv => whnf
  refine ASeq.go tab_ok mixed_ ?_
  conv => whnf
  refine ACalls.inn (c_ref08_Reduces (W.bindE h) (fun v11 h => ?_)) ⟨rfl, rfl⟩
  conv => whnf
  refine XSplit.mk (fun e => ?_) (fun e => ?_)
  · replace h := XSplit.t h e
    conv => whnf
    refine XDraw.d [0, 1, 2, 3, 4, 6, 7, 8, 9, 10, 5, 11, 12, 13] [[], [], [], [], [], [], [], [], [], [], [], [], [], [5]] (by decide +kernel) ?_
    conv => whnf
    refine ACalls.inn (c_ref14_end (W.bindE h) (fun v12 h => ?_)) ⟨rfl, rfl⟩
    conv => whnf
    refine ACalls.inn (c_ref14_end (W.bindE h) (fun v13 h => ?_)) ⟨rfl, rfl⟩
    conv => whnf
    refine ⟨_, Weak.a ?_, ?_, h⟩; (conv => whnf); exact ⟨rfl, rfl, rfl, rfl, rfl⟩; exact rfl
  · replace h := XSplit.f h e
    conv => whnf
    refine ACalls.inn (c_ref13_Total (W.bindE h) (fun v14 h => ?_)) ⟨rfl, rfl⟩
    conv => whnf
    refine ASeq.go tab_ok mixed_ ?_
    conv => whnf
    refine ALoop.ofW tab_ok mixed_ (fun v15 => ⟨[(5, .ptr 0 0), (7, .ptr 1 0), (8, .ptr 2 0), (10, .ptr 3 0), (11, .ptr 4 0), (12, .ptr 5 0), (13, .int .i64 (v15.fst))], [(0, .box 51 [.int .i64 (a0), .int .i64 (a1), .int .i64 (a2), .int .i64 (a3), .int .i64 (a4), .int .i64 (a5), .int .i64 (a6), .int .i64 (a7), .int .i64 (a8), .int .i64 (a9), .int .i64 (a10), .int .i64 (a11), .sl (a12) 81 (a13), .sl (a14) 21 (a15), .int .i64 (a16), .int .i64 (a17), .int .i64 (a18), .int .i64 (a19), .int .i64 (a20), .int .i64 (a21), .int .i64 (a22), .int .i64 (a23)]), (1, .box 23 [.int .i64 (a27), .int .i64 (a28), .int .i64 (a29)]), (2, .box 29 [.int .i64 (a30), .int .i64 (a31)]), (3, .box 29 [.int .i64 (0), .int .i64 (0)]), (4, .box 76 [.int .i64 (a0), .int .i64 (a1), .int .i64 (a2), .int .i64 (a3), .int .i64 (a4), .int .i64 (a5), .int .i64 (a6), .int .i64 (a7), .int .i64 (a8), .int .i64 (a9), .int .i64 (a10), .int .i64 (a11), .sl (a12) 81 (a13), .sl (a14) 21 (a15), .int .i64 (a16), .int .i64 (a17), .int .i64 (a18), .int .i64 (a19), .int .i64 (a20), .int .i64 (a21), .int .i64 (a22), .int .i64 (a23), .int .i64 (a24), .int .i64 (a25), .int .i64 (a26), .int .i64 (a27), .int .i64 (a28), .int .i64 (a29)]), (5, .box 29 [.int .i64 (v15.snd.fst), .int .i64 (v15.snd.snd)])], 6, [], []⟩) (fun v16 => (.exit 0, ⟨[(5, .ptr 0 0), (10, .ptr 1 0), (11, .ptr 2 0), (12, .ptr 3 0)], [(0, .box 51 [.int .i64 (a0), .int .i64 (a1), .int .i64 (a2), .int .i64 (a3), .int .i64 (a4), .int .i64 (a5), .int .i64 (a6), .int .i64 (a7), .int .i64 (a8), .int .i64 (a9), .int .i64 (a10), .int .i64 (a11), .sl (a12) 81 (a13), .sl (a14) 21 (a15), .int .i64 (a16), .int .i64 (a17), .int .i64 (a18), .int .i64 (a19), .int .i64 (a20), .int .i64 (a21), .int .i64 (a22), .int .i64 (a23)]), (1, .box 29 [.int .i64 (0), .int .i64 (0)]), (2, .box 76 [.int .i64 (a0), .int .i64 (a1), .int .i64 (a2), .int .i64 (a3), .int .i64 (a4), .int .i64 (a5), .int .i64 (a6), .int .i64 (a7), .int .i64 (a8), .int .i64 (a9), .int .i64 (a10), .int .i64 (a11), .sl (a12) 81 (a13), .sl (a14) 21 (a15), .int .i64 (a16), .int .i64 (a17), .int .i64 (a18), .int .i64 (a19), .int .i64 (a20), .int .i64 (a21), .int .i64 (a22), .int .i64 (a23), .int .i64 (a24), .int .i64 (a25), .int .i64 (a26), .int .i64 (a27), .int .i64 (a28), .int .i64 (a29)]), (3, .box 29 [.int .i64 (v16.fst), .int .i64 (v16.snd)])], 4, [], []⟩)) (W.bindE h) (Weak.a ?_) (fun v15 J_ Q h => ?_) (fun v16 h => ?_)
    · conv => whnf
      exact ⟨rfl, rfl, rfl, rfl, rfl⟩
    · conv => whnf
      refine ASeq.go tab_ok mixed_ ?_
      conv => whnf
      refine XSplit.mk (fun e => ?_) (fun e => ?_)
      · replace h := XSplit.t h e
        conv => whnf
        refine ASeq.go tab_ok mixed_ ?_
        conv => whnf
        refine ACalls.inn (c_ref13_Total (W.bindE h) (fun v17 h => ?_)) ⟨rfl, rfl⟩
        conv => whnf
        refine ⟨_, Weak.a ?_, h⟩; (conv => whnf); exact ⟨rfl, rfl, rfl, rfl, rfl⟩
      · replace h := XSplit.f h e
        conv => whnf
        refine ⟨_, ?_, Weak.a ?_, h⟩; exact rfl; (conv => whnf); exact ⟨rfl, rfl, rfl, rfl, rfl⟩
    · conv => whnf
      refine XDraw.d [0, 1, 2, 3, 7, 8, 9, 10, 4, 5, 6, 11, 12, 13, 14, 15] [[], [], [], [], [], [4], [4], [], [], [], [], [], [4], [4], [], [1]] (by decide +kernel) ?_
      conv => whnf
      refine ACalls.inn (c__ref10_Site__Length (W.bindE h) (fun v18 h => ?_)) ⟨rfl, rfl⟩
      conv => whnf
      refine ACalls.inn (c_ref11_Home (W.bindE h) (fun v19 h => ?_)) ⟨rfl, rfl⟩
      conv => whnf
      refine ACalls.inn (c__ref10_Site__Length (W.bindE h) (fun v20 h => ?_)) ⟨rfl, rfl⟩
      conv => whnf
      refine ACalls.inn (c_ref11_Home (W.bindE h) (fun v21 h => ?_)) ⟨rfl, rfl⟩
      conv => whnf
      refine ⟨_, Weak.a ?_, ?_, h⟩; (conv => whnf); exact ⟨rfl, rfl, rfl, rfl, rfl⟩; exact rfl
theorem c_ref14_Out {a0 : Int} {a1 : Int} {a2 : Int} {a3 : Int} {a4 : Int} {a5 : Bool} {a6 : Rws} {a7 : Int} {a8 : Int} {a9 : Bool} {a10 : Rws} {Q : Int × Int × Int → Prop} {R : AV → List AB → Prop} (h : (g_ref14_Out a0 a1 a2 a3 a4 a5 a6 a7 a8 a9 a10).run Q) (k : ∀ r, Q r → R (.tup [.agg [.int .i64 (r.fst), .int .i64 (r.snd.fst)], .int .i64 (r.snd.snd)]) ([])) : ACalls Tryz.prog tab 6 [.agg [.int .i64 (a0), .int .i64 (a1), .int .i64 (a2), .int .i64 (a3), .int .i64 (a4), .sl (a5) 51 (a6), .int .i64 (a7)], .int .i64 (a8), .sl (a9) 29 (a10)] [] R := by
  refine ACalls.out (fun r => .tup [.agg [.int .i64 (r.fst), .int .i64 (r.snd.fst)], .int .i64 (r.snd.snd)]) (fun r => []) (Q := Q) (ACalls.introX (mv := mv) tab_ok mixed_ (fn := Tryz.f6) (by kernel_rfl) rfl (by kernel_rfl) (by kernel_rfl) (leB rfl) ?_) (fun v => by first | exact ⟨rfl, leB rfl⟩ | (cases v <;> exact ⟨rfl, leB rfl⟩)) k
  conv => whnf
  refine ACalls.inn (c_ref08_Look (W.bindE h) (fun v6 h => ?_)) ⟨rfl, rfl⟩
  conv => whnf
  refine ASeq.go tab_ok mixed_ ?_
  conv => whnf
  refine XSplit.mk (fun e => ?_) (fun e => ?_)
  · replace h := XSplit.t h e
    conv => whnf
    refine XDraw.d [0, 1, 2, 3, 4] [[], [], [], [1], []] (by decide +kernel) ?_
    conv => whnf
    refine ⟨_, Weak.a ?_, ?_, h⟩; (conv => whnf); exact ⟨rfl, rfl, rfl, rfl, rfl⟩; exact rfl
  · replace h := XSplit.f h e
    conv => whnf
    refine ASeq.go tab_ok mixed_ ?_
    conv => whnf
    refine XSplit.mk (fun e => ?_) (fun e => ?_)
    · replace h := XSplit.t h e
      conv => whnf
      refine ⟨_, Weak.a ?_, ?_, h⟩; (conv => whnf); exact ⟨rfl, rfl, rfl, rfl, rfl⟩; exact rfl
    · replace h := XSplit.f h e
      conv => whnf
      refine ASeq.go tab_ok mixed_ ?_
      conv => whnf
      refine XSplit.mk (fun e => ?_) (fun e => ?_)
      · replace h := XSplit.t h e
        conv => whnf
        refine ⟨_, Weak.a ?_, ?_, h⟩; (conv => whnf); exact ⟨rfl, rfl, rfl, rfl, rfl⟩; exact rfl
      · replace h := XSplit.f h e
        conv => whnf
        refine XNeed.mk (XNeed.c h) ?_; replace h := XNeed.x h
        conv => whnf
        refine XNeed.mk (XNeed.c h) ?_; replace h := XNeed.x h
        conv => whnf
        refine ASeq.joinW tab_ok mixed_ (fun v7 => ⟨[(1, .int .i64 (a8)), (6, .ptr 0 0), (7, .int .i64 (0)), (8, .own 1), (11, .ptr 2 0), (12, .ptr 3 0), (13, .ptr 4 0)], [(0, .box 29 [.int .i64 (0), .int .i64 (0)]), (1, .arr true 23 (v6.snd.snd.snd.snd.fst) (v6.snd.snd.snd.snd.snd)), (2, .box 51 [.int .i64 (ri a6 (IntKind.i64.wrap (a8 - 1)).toNat 0), .int .i64 (ri a6 (IntKind.i64.wrap (a8 - 1)).toNat 1), .int .i64 (ri a6 (IntKind.i64.wrap (a8 - 1)).toNat 2), .int .i64 (ri a6 (IntKind.i64.wrap (a8 - 1)).toNat 3), .int .i64 (ri a6 (IntKind.i64.wrap (a8 - 1)).toNat 4), .int .i64 (ri a6 (IntKind.i64.wrap (a8 - 1)).toNat 5), .int .i64 (ri a6 (IntKind.i64.wrap (a8 - 1)).toNat 6), .int .i64 (ri a6 (IntKind.i64.wrap (a8 - 1)).toNat 7), .int .i64 (ri a6 (IntKind.i64.wrap (a8 - 1)).toNat 8), .int .i64 (ri a6 (IntKind.i64.wrap (a8 - 1)).toNat 9), .int .i64 (ri a6 (IntKind.i64.wrap (a8 - 1)).toNat 10), .int .i64 (ri a6 (IntKind.i64.wrap (a8 - 1)).toNat 11), .sl (rn a6 (IntKind.i64.wrap (a8 - 1)).toNat 12) 81 (rr a6 (IntKind.i64.wrap (a8 - 1)).toNat 12), .sl (rn a6 (IntKind.i64.wrap (a8 - 1)).toNat 13) 21 (rr a6 (IntKind.i64.wrap (a8 - 1)).toNat 13), .int .i64 (ri a6 (IntKind.i64.wrap (a8 - 1)).toNat 14), .int .i64 (ri a6 (IntKind.i64.wrap (a8 - 1)).toNat 15), .int .i64 (ri a6 (IntKind.i64.wrap (a8 - 1)).toNat 16), .int .i64 (ri a6 (IntKind.i64.wrap (a8 - 1)).toNat 17), .int .i64 (ri a6 (IntKind.i64.wrap (a8 - 1)).toNat 18), .int .i64 (ri a6 (IntKind.i64.wrap (a8 - 1)).toNat 19), .int .i64 (ri a6 (IntKind.i64.wrap (a8 - 1)).toNat 20), .int .i64 (ri a6 (IntKind.i64.wrap (a8 - 1)).toNat 21)]), (3, .box 29 [.int .i64 (ri a10 (ri a6 (IntKind.i64.wrap (a8 - 1)).toNat 1).toNat 0), .int .i64 (ri a10 (ri a6 (IntKind.i64.wrap (a8 - 1)).toNat 1).toNat 1)]), (4, .box 29 [.int .i64 (v7.fst), .int .i64 (v7.snd)])], 5, [], []⟩) h (fun Q h => ?_) (fun v7 h => ?_)
        · conv => whnf
          refine XSplit.mk (fun e => ?_) (fun e => ?_)
          · replace h := XSplit.t h e
            conv => whnf
            refine XNeed.mk (XNeed.c h) ?_; replace h := XNeed.x h
            conv => whnf
            refine ⟨_, Weak.a ?_, h⟩; (conv => whnf); exact ⟨rfl, rfl, rfl, rfl, rfl⟩
          · replace h := XSplit.f h e
            conv => whnf
            refine ⟨_, Weak.a ?_, h⟩; (conv => whnf); exact ⟨rfl, rfl, rfl, rfl, rfl⟩
        · conv => whnf
          refine ASeq.go tab_ok mixed_ ?_
          conv => whnf
          refine ASeq.joinW tab_ok mixed_ (fun v8 => ⟨[(1, .int .i64 (a8)), (6, .ptr 0 0), (7, .int .i64 (0)), (8, .own 1), (11, .ptr 2 0), (12, .ptr 3 0), (13, .ptr 4 0), (68, .bool (v8))], [(0, .box 29 [.int .i64 (0), .int .i64 (0)]), (1, .arr true 23 (v6.snd.snd.snd.snd.fst) (v6.snd.snd.snd.snd.snd)), (2, .box 51 [.int .i64 (ri a6 (IntKind.i64.wrap (a8 - 1)).toNat 0), .int .i64 (ri a6 (IntKind.i64.wrap (a8 - 1)).toNat 1), .int .i64 (ri a6 (IntKind.i64.wrap (a8 - 1)).toNat 2), .int .i64 (ri a6 (IntKind.i64.wrap (a8 - 1)).toNat 3), .int .i64 (ri a6 (IntKind.i64.wrap (a8 - 1)).toNat 4), .int .i64 (ri a6 (IntKind.i64.wrap (a8 - 1)).toNat 5), .int .i64 (ri a6 (IntKind.i64.wrap (a8 - 1)).toNat 6), .int .i64 (ri a6 (IntKind.i64.wrap (a8 - 1)).toNat 7), .int .i64 (ri a6 (IntKind.i64.wrap (a8 - 1)).toNat 8), .int .i64 (ri a6 (IntKind.i64.wrap (a8 - 1)).toNat 9), .int .i64 (ri a6 (IntKind.i64.wrap (a8 - 1)).toNat 10), .int .i64 (ri a6 (IntKind.i64.wrap (a8 - 1)).toNat 11), .sl (rn a6 (IntKind.i64.wrap (a8 - 1)).toNat 12) 81 (rr a6 (IntKind.i64.wrap (a8 - 1)).toNat 12), .sl (rn a6 (IntKind.i64.wrap (a8 - 1)).toNat 13) 21 (rr a6 (IntKind.i64.wrap (a8 - 1)).toNat 13), .int .i64 (ri a6 (IntKind.i64.wrap (a8 - 1)).toNat 14), .int .i64 (ri a6 (IntKind.i64.wrap (a8 - 1)).toNat 15), .int .i64 (ri a6 (IntKind.i64.wrap (a8 - 1)).toNat 16), .int .i64 (ri a6 (IntKind.i64.wrap (a8 - 1)).toNat 17), .int .i64 (ri a6 (IntKind.i64.wrap (a8 - 1)).toNat 18), .int .i64 (ri a6 (IntKind.i64.wrap (a8 - 1)).toNat 19), .int .i64 (ri a6 (IntKind.i64.wrap (a8 - 1)).toNat 20), .int .i64 (ri a6 (IntKind.i64.wrap (a8 - 1)).toNat 21)]), (3, .box 29 [.int .i64 (ri a10 (ri a6 (IntKind.i64.wrap (a8 - 1)).toNat 1).toNat 0), .int .i64 (ri a10 (ri a6 (IntKind.i64.wrap (a8 - 1)).toNat 1).toNat 1)]), (4, .box 29 [.int .i64 (v7.fst), .int .i64 (v7.snd)])], 5, [], []⟩) h (fun Q h => ?_) (fun v8 h => ?_)
          · conv => whnf
            refine ACalls.inn (c_ref03_Values (W.bindE h) (fun v9 h => ?_)) ⟨rfl, rfl⟩
            conv => whnf
            refine XSplit.mk (fun e => ?_) (fun e => ?_)
            · replace h := XSplit.t h e
              conv => whnf
              refine ⟨_, Weak.a ?_, h⟩; (conv => whnf); exact ⟨rfl, rfl, rfl, rfl, rfl⟩
            · replace h := XSplit.f h e
              conv => whnf
              refine ACalls.inn (c_ref03_Values (W.bindE h) (fun v10 h => ?_)) ⟨rfl, rfl⟩
              conv => whnf
              refine ⟨_, Weak.a ?_, h⟩; (conv => whnf); exact ⟨rfl, rfl, rfl, rfl, rfl⟩
          · conv => whnf
            refine XSplit.mk (fun e => ?_) (fun e => ?_)
            · replace h := XSplit.t h e
              conv => whnf
              refine ⟨_, Weak.a ?_, ?_, h⟩; (conv => whnf); exact ⟨rfl, rfl, rfl, rfl, rfl⟩; exact rfl
            · replace h := XSplit.f h e
              conv => whnf
              refine XDraw.d [0, 1, 2, 3, 4, 5, 6, 7, 8, 9, 10, 11, 12, 13, 14] [[], [], [], [], [], [], [], [], [], [], [], [], [5, 5], [0], []] (by decide +kernel) ?_
              conv => whnf
              refine XNeed.mk (XNeed.c h) ?_; replace h := XNeed.x h
              conv => whnf
              refine XNeed.mk (XNeed.c h) ?_; replace h := XNeed.x h
              conv => whnf
              refine ACalls.inn (c_ref14_Comes (W.bindE h) (fun v11 h => ?_)) ⟨rfl, rfl⟩
              conv => whnf
              refine ⟨_, Weak.a ?_, ?_, h⟩; (conv => whnf); exact ⟨rfl, rfl, rfl, rfl, rfl⟩; exact rfl
theorem c_law14_one {Q : Int × Int × Int × Int × Int × Int × Bool × Rws → Prop} {R : AV → List AB → Prop} (h : (g_law14_one).run Q) (k : ∀ r, Q r → R (.agg [.int .i64 (r.fst), .int .i64 (r.snd.fst), .int .i64 (r.snd.snd.fst), .int .i64 (r.snd.snd.snd.fst), .int .i64 (r.snd.snd.snd.snd.fst), .own 0, .int .i64 (r.snd.snd.snd.snd.snd.fst)]) ([.arr true 51 (r.snd.snd.snd.snd.snd.snd.fst) (r.snd.snd.snd.snd.snd.snd.snd)])) : ACalls Tryz.prog tab 18 [] [] R := by
  refine ACalls.out (fun r => .agg [.int .i64 (r.fst), .int .i64 (r.snd.fst), .int .i64 (r.snd.snd.fst), .int .i64 (r.snd.snd.snd.fst), .int .i64 (r.snd.snd.snd.snd.fst), .own 0, .int .i64 (r.snd.snd.snd.snd.snd.fst)]) (fun r => [.arr true 51 (r.snd.snd.snd.snd.snd.snd.fst) (r.snd.snd.snd.snd.snd.snd.snd)]) (Q := Q) (ACalls.introX (mv := mv) tab_ok mixed_ (fn := Tryz.f18) (by kernel_rfl) rfl (by kernel_rfl) (by kernel_rfl) (leB rfl) ?_) (fun v => by first | exact ⟨rfl, leB rfl⟩ | (cases v <;> exact ⟨rfl, leB rfl⟩)) k
  conv => whnf
  refine ⟨_, Weak.a ?_, ?_, h⟩; (conv => whnf); exact ⟨rfl, rfl, rfl, rfl, rfl⟩; exact rfl
theorem c_flow_Spread {a0 : Int} {a1 : Int} {a2 : Int} {a3 : Int} {a4 : Int} {a5 : Bool} {a6 : Rws} {a7 : Int} {Q : Int × Int × Int × Bool × Rws → Prop} {R : AV → List AB → Prop} (h : (g_flow_Spread a0 a1 a2 a3 a4 a5 a6 a7).run Q) (k : ∀ r, Q r → R (.tup [.own 0, .agg [.int .i64 (r.fst), .int .i64 (r.snd.fst), .int .i64 (r.snd.snd.fst)]]) ([.arr true 29 (r.snd.snd.snd.fst) (r.snd.snd.snd.snd)])) : ACalls Tryz.prog tab 9 [.agg [.int .i64 (a0), .int .i64 (a1), .int .i64 (a2), .int .i64 (a3), .int .i64 (a4), .sl (a5) 51 (a6), .int .i64 (a7)]] [] R := by
  refine ACalls.out (fun r => .tup [.own 0, .agg [.int .i64 (r.fst), .int .i64 (r.snd.fst), .int .i64 (r.snd.snd.fst)]]) (fun r => [.arr true 29 (r.snd.snd.snd.fst) (r.snd.snd.snd.snd)]) (Q := Q) (ACalls.introX (mv := mv) tab_ok mixed_ (fn := Tryz.f9) (by kernel_rfl) rfl (by kernel_rfl) (by kernel_rfl) (leB rfl) ?_) (fun v => by first | exact ⟨rfl, leB rfl⟩ | (cases v <;> exact ⟨rfl, leB rfl⟩)) k
  conv => whnf
  refine ASeq.go tab_ok mixed_ ?_
  conv => whnf
  refine ACalls.inn (c_model_Check (W.bindE h) (fun v4 h => ?_)) ⟨rfl, rfl⟩
  conv => whnf
  refine XSplit.mk (fun e => ?_) (fun e => ?_)
  · replace h := XSplit.t h e
    conv => whnf
    refine XDraw.d [0, 1, 2] [[], [], [1]] (by decide +kernel) ?_
    conv => whnf
    refine ⟨_, Weak.a ?_, ?_, h⟩; (conv => whnf); exact ⟨rfl, rfl, rfl, rfl, rfl⟩; exact rfl
  · replace h := XSplit.f h e
    conv => whnf
    refine ASeq.go tab_ok mixed_ ?_
    conv => whnf
    refine ALoop.ofW tab_ok mixed_ (fun v5 => ⟨[(1, .ptr 0 0), (2, .nils), (3, .ptr 1 0), (5, .own 2), (23, .int .i64 ((↑(List.length a6) : Int))), (24, .int .i64 (v5.fst))], [(0, .box 26 [.int .i64 (a0), .int .i64 (a1), .int .i64 (a2), .int .i64 (a3), .int .i64 (a4), .sl (a5) 51 (a6), .int .i64 (a7)]), (1, .box 39 [.int .i64 (0), .int .i64 (0), .int .i64 (0)]), (2, .arr true 29 (false) (v5.snd))], 3, [], []⟩) (fun v6 => (.exit 0, ⟨[(2, .nils), (3, .ptr 0 0), (5, .own 1)], [(0, .box 39 [.int .i64 (0), .int .i64 (0), .int .i64 (0)]), (1, .arr true 29 (false) (v6))], 2, [], []⟩)) (W.bindE h) (Weak.a ?_) (fun v5 J_ Q h => ?_) (fun v6 h => ?_)
    · conv => whnf
      exact ⟨rfl, rfl, rfl, rfl, rfl⟩
    · conv => whnf
      refine ASeq.go tab_ok mixed_ ?_
      conv => whnf
      refine XSplit.mk (fun e => ?_) (fun e => ?_)
      · replace h := XSplit.t h e
        conv => whnf
        refine ASeq.go tab_ok mixed_ ?_
        conv => whnf
        refine ACalls.inn (c_flow_Out (W.bindE h) (fun v7 h => ?_)) ⟨rfl, rfl⟩
        conv => whnf
        refine XNeed.mk (XNeed.c h) ?_; replace h := XNeed.x h
        conv => whnf
        refine ⟨_, Weak.a ?_, h⟩; (conv => whnf); exact ⟨rfl, rfl, rfl, rfl, rfl⟩
      · replace h := XSplit.f h e
        conv => whnf
        refine ⟨_, ?_, Weak.a ?_, h⟩; exact rfl; (conv => whnf); exact ⟨rfl, rfl, rfl, rfl, rfl⟩
    · conv => whnf
      refine ⟨_, Weak.a ?_, ?_, h⟩; (conv => whnf); exact ⟨rfl, rfl, rfl, rfl, rfl⟩; exact rfl
theorem c_law14_fixed {Q : Bool → Prop} {R : AV → List AB → Prop} (h : (g_law14_fixed).run Q) (k : ∀ r, Q r → R (.bool (r)) ([])) : ACalls Tryz.prog tab 7 [] [] R := by
  refine ACalls.out (fun r => .bool (r)) (fun r => []) (Q := Q) (ACalls.introX (mv := mv) tab_ok mixed_ (fn := Tryz.f7) (by kernel_rfl) rfl (by kernel_rfl) (by kernel_rfl) (leB rfl) ?_) (fun v => by first | exact ⟨rfl, leB rfl⟩ | (cases v <;> exact ⟨rfl, leB rfl⟩)) k
  conv => whnf
  refine ACalls.inn (c_law14_one (W.bindE h) (fun v6 h => ?_)) ⟨rfl, rfl⟩
  conv => whnf
  refine ACalls.inn (c_flow_Spread (W.bindE h) (fun v7 h => ?_)) ⟨rfl, rfl⟩
  conv => whnf
  refine ACalls.inn (c_law14_one (W.bindE h) (fun v8 h => ?_)) ⟨rfl, rfl⟩
  conv => whnf
  refine ACalls.inn (c_flow_Out (W.bindE h) (fun v9 h => ?_)) ⟨rfl, rfl⟩
  conv => whnf
  refine ACalls.inn (c_law14_one (W.bindE h) (fun v10 h => ?_)) ⟨rfl, rfl⟩
  conv => whnf
  refine ACalls.inn (c_flow_Out (W.bindE h) (fun v11 h => ?_)) ⟨rfl, rfl⟩
  conv => whnf
  refine XDraw.q [0, 1, 2, 3, 4, 5, 6, 7, 8, 9, 10, 11, 12, 13, 14, 15, 16, 17, 18, 19, 20, 21, 22, 23, 24, 25, 26, 27, 28, 29, 30, 31, 32, 33, 34, 35, 36, 37] (by decide +kernel) ?_
  conv => whnf
  refine XNeed.mk (XNeed.c h) ?_; replace h := XNeed.x h
  conv => whnf
  refine XNeed.mk (XNeed.c h) ?_; replace h := XNeed.x h
  conv => whnf
  refine XNeed.mk (XNeed.c h) ?_; replace h := XNeed.x h
  conv => whnf
  refine ⟨_, Weak.a ?_, ?_, h⟩; (conv => whnf); exact ⟨rfl, rfl, rfl, rfl, rfl⟩; exact rfl
theorem c_ref14_Same {a0 : Bool} {a1 : Rws} {a2 : Bool} {a3 : Rws} {Q : Bool → Prop} {R : AV → List AB → Prop} (h : (g_ref14_Same a0 a1 a2 a3).run Q) (k : ∀ r, Q r → R (.bool (r)) ([])) : ACalls Tryz.prog tab 8 [.sl (a0) 29 (a1), .sl (a2) 29 (a3)] [] R := by
  refine ACalls.out (fun r => .bool (r)) (fun r => []) (Q := Q) (ACalls.introX (mv := mv) tab_ok mixed_ (fn := Tryz.f8) (by kernel_rfl) rfl (by kernel_rfl) (by kernel_rfl) (leB rfl) ?_) (fun v => by first | exact ⟨rfl, leB rfl⟩ | (cases v <;> exact ⟨rfl, leB rfl⟩)) k
  conv => whnf
  refine ASeq.go tab_ok mixed_ ?_
  conv => whnf
  refine XSplit.mk (fun e => ?_) (fun e => ?_)
  · replace h := XSplit.t h e
    conv => whnf
    refine ⟨_, Weak.a ?_, ?_, h⟩; (conv => whnf); exact ⟨rfl, rfl, rfl, rfl, rfl⟩; exact rfl
  · replace h := XSplit.f h e
    conv => whnf
    refine ASeq.go tab_ok mixed_ ?_
    conv => whnf
    refine ALoop.ofW tab_ok mixed_ (fun v3 => ⟨[(0, .sl (a0) 29 (a1)), (1, .sl (a2) 29 (a3)), (4, .kb false), (12, .int .i64 ((↑(List.length a1) : Int))), (13, .int .i64 (v3))], [], 0, [], []⟩) (sx (fun v4 => (.ret, ⟨[(4, .kb false)], [], 0, [], []⟩)) (fun v5 => (.exit 0, ⟨[(4, .kb false)], [], 0, [], []⟩))) (W.bindE h) (Weak.a ?_) (fun v3 J_ Q h => ?_) (fun v h => ?_)
    · conv => whnf
      exact ⟨rfl, rfl, rfl, rfl, rfl⟩
    · conv => whnf
      refine ASeq.go tab_ok mixed_ ?_
      conv => whnf
      refine XSplit.mk (fun e => ?_) (fun e => ?_)
      · replace h := XSplit.t h e
        conv => whnf
        refine ASeq.go tab_ok mixed_ ?_
        conv => whnf
        refine XDraw.q [0, 1, 2, 3, 4, 5, 6, 7, 8] (by decide +kernel) ?_
        conv => whnf
        refine XNeed.mk (XNeed.c h) ?_; replace h := XNeed.x h
        conv => whnf
        refine XNeed.mk (XNeed.c h) ?_; replace h := XNeed.x h
        conv => whnf
        refine XSplit.mk (fun e => ?_) (fun e => ?_)
        · replace h := XSplit.t h e
          conv => whnf
          refine ⟨_, ?_, Weak.a ?_, h⟩; exact rfl; (conv => whnf); exact ⟨rfl, rfl, rfl, rfl, rfl⟩
        · replace h := XSplit.f h e
          conv => whnf
          refine ⟨_, Weak.a ?_, h⟩; (conv => whnf); exact ⟨rfl, rfl, rfl, rfl, rfl⟩
      · replace h := XSplit.f h e
        conv => whnf
        refine ⟨_, ?_, Weak.a ?_, h⟩; exact rfl; (conv => whnf); exact ⟨rfl, rfl, rfl, rfl, rfl⟩
    · rcases v with v4 | v5
      · conv => whnf
        refine ⟨_, Weak.a ?_, ?_, h⟩; (conv => whnf); exact ⟨rfl, rfl, rfl, rfl, rfl⟩; exact rfl
      · conv => whnf
        refine ⟨_, Weak.a ?_, ?_, h⟩; (conv => whnf); exact ⟨rfl, rfl, rfl, rfl, rfl⟩; exact rfl
theorem c_ref08_Check {a0 : Int} {a1 : Int} {a2 : Int} {a3 : Int} {a4 : Int} {a5 : Bool} {a6 : Rws} {a7 : Int} {Q : Int × Int × Int → Prop} {R : AV → List AB → Prop} (h : (g_ref08_Check a0 a1 a2 a3 a4 a5 a6 a7).run Q) (k : ∀ r, Q r → R (.agg [.int .i64 (r.fst), .int .i64 (r.snd.fst), .int .i64 (r.snd.snd)]) ([])) : ACalls Tryz.prog tab 19 [.agg [.int .i64 (a0), .int .i64 (a1), .int .i64 (a2), .int .i64 (a3), .int .i64 (a4), .sl (a5) 51 (a6), .int .i64 (a7)]] [] R := by
  refine ACalls.out (fun r => .agg [.int .i64 (r.fst), .int .i64 (r.snd.fst), .int .i64 (r.snd.snd)]) (fun r => []) (Q := Q) (ACalls.introX (mv := mv) tab_ok mixed_ (fn := Tryz.f19) (by kernel_rfl) rfl (by kernel_rfl) (by kernel_rfl) (leB rfl) ?_) (fun v => by first | exact ⟨rfl, leB rfl⟩ | (cases v <;> exact ⟨rfl, leB rfl⟩)) k
  conv => whnf
  refine ACalls.inn (c_ref08_Look (W.bindE h) (fun v1 h => ?_)) ⟨rfl, rfl⟩
  conv => whnf
  refine ⟨_, Weak.a ?_, ?_, h⟩; (conv => whnf); exact ⟨rfl, rfl, rfl, rfl, rfl⟩; exact rfl
theorem c_ref14_Spread {a0 : Int} {a1 : Int} {a2 : Int} {a3 : Int} {a4 : Int} {a5 : Bool} {a6 : Rws} {a7 : Int} {Q : Int × Int × Int × Bool × Rws → Prop} {R : AV → List AB → Prop} (h : (g_ref14_Spread a0 a1 a2 a3 a4 a5 a6 a7).run Q) (k : ∀ r, Q r → R (.tup [.own 0, .agg [.int .i64 (r.fst), .int .i64 (r.snd.fst), .int .i64 (r.snd.snd.fst)]]) ([.arr true 29 (r.snd.snd.snd.fst) (r.snd.snd.snd.snd)])) : ACalls Tryz.prog tab 10 [.agg [.int .i64 (a0), .int .i64 (a1), .int .i64 (a2), .int .i64 (a3), .int .i64 (a4), .sl (a5) 51 (a6), .int .i64 (a7)]] [] R := by
  refine ACalls.out (fun r => .tup [.own 0, .agg [.int .i64 (r.fst), .int .i64 (r.snd.fst), .int .i64 (r.snd.snd.fst)]]) (fun r => [.arr true 29 (r.snd.snd.snd.fst) (r.snd.snd.snd.snd)]) (Q := Q) (ACalls.introX (mv := mv) tab_ok mixed_ (fn := Tryz.f10) (by kernel_rfl) rfl (by kernel_rfl) (by kernel_rfl) (leB rfl) ?_) (fun v => by first | exact ⟨rfl, leB rfl⟩ | (cases v <;> exact ⟨rfl, leB rfl⟩)) k
  conv => whnf
  refine ACalls.inn (c_ref08_Check (W.bindE h) (fun v4 h => ?_)) ⟨rfl, rfl⟩
  conv => whnf
  refine ASeq.go tab_ok mixed_ ?_
  conv => whnf
  refine XSplit.mk (fun e => ?_) (fun e => ?_)
  · replace h := XSplit.t h e
    conv => whnf
    refine XDraw.d [0, 1, 2] [[], [], [1]] (by decide +kernel) ?_
    conv => whnf
    refine ⟨_, Weak.a ?_, ?_, h⟩; (conv => whnf); exact ⟨rfl, rfl, rfl, rfl, rfl⟩; exact rfl
  · replace h := XSplit.f h e
    conv => whnf
    refine ASeq.go tab_ok mixed_ ?_
    conv => whnf
    refine ALoop.ofW tab_ok mixed_ (fun v5 => ⟨[(1, .ptr 0 0), (2, .nils), (3, .ptr 1 0), (5, .own 2), (23, .int .i64 ((↑(List.length a6) : Int))), (24, .int .i64 (v5.fst))], [(0, .box 26 [.int .i64 (a0), .int .i64 (a1), .int .i64 (a2), .int .i64 (a3), .int .i64 (a4), .sl (a5) 51 (a6), .int .i64 (a7)]), (1, .box 39 [.int .i64 (0), .int .i64 (0), .int .i64 (0)]), (2, .arr true 29 (false) (v5.snd))], 3, [], []⟩) (fun v6 => (.exit 0, ⟨[(2, .nils), (3, .ptr 0 0), (5, .own 1)], [(0, .box 39 [.int .i64 (0), .int .i64 (0), .int .i64 (0)]), (1, .arr true 29 (false) (v6))], 2, [], []⟩)) (W.bindE h) (Weak.a ?_) (fun v5 J_ Q h => ?_) (fun v6 h => ?_)
    · conv => whnf
      exact ⟨rfl, rfl, rfl, rfl, rfl⟩
    · conv => whnf
      refine ASeq.go tab_ok mixed_ ?_
      conv => whnf
      refine XSplit.mk (fun e => ?_) (fun e => ?_)
      · replace h := XSplit.t h e
        conv => whnf
        refine ASeq.go tab_ok mixed_ ?_
        conv => whnf
        refine ACalls.inn (c_ref14_Out (W.bindE h) (fun v7 h => ?_)) ⟨rfl, rfl⟩
        conv => whnf
        refine XNeed.mk (XNeed.c h) ?_; replace h := XNeed.x h
        conv => whnf
        refine ⟨_, Weak.a ?_, h⟩; (conv => whnf); exact ⟨rfl, rfl, rfl, rfl, rfl⟩
      · replace h := XSplit.f h e
        conv => whnf
        refine ⟨_, ?_, Weak.a ?_, h⟩; exact rfl; (conv => whnf); exact ⟨rfl, rfl, rfl, rfl, rfl⟩
    · conv => whnf
      refine ⟨_, Weak.a ?_, ?_, h⟩; (conv => whnf); exact ⟨rfl, rfl, rfl, rfl, rfl⟩; exact rfl
theorem c_law14_FlowSpreads {a0 : Int} {a1 : Int} {a2 : Int} {a3 : Int} {a4 : Int} {a5 : Bool} {a6 : Rws} {a7 : Int} {Q : Bool → Prop} {R : AV → List AB → Prop} (h : (g_law14_FlowSpreads a0 a1 a2 a3 a4 a5 a6 a7).run Q) (k : ∀ r, Q r → R (.bool (r)) ([])) : ACalls Tryz.prog tab 4 [.agg [.int .i64 (a0), .int .i64 (a1), .int .i64 (a2), .int .i64 (a3), .int .i64 (a4), .sl (a5) 51 (a6), .int .i64 (a7)]] [] R := by
  refine ACalls.out (fun r => .bool (r)) (fun r => []) (Q := Q) (ACalls.introX (mv := mv) tab_ok mixed_ (fn := Tryz.f4) (by kernel_rfl) rfl (by kernel_rfl) (by kernel_rfl) (leB rfl) ?_) (fun v => by first | exact ⟨rfl, leB rfl⟩ | (cases v <;> exact ⟨rfl, leB rfl⟩)) k
  conv => whnf
  refine ACalls.inn (c_flow_Spread (W.bindE h) (fun v9 h => ?_)) ⟨rfl, rfl⟩
  conv => whnf
  refine ACalls.inn (c_ref14_Spread (W.bindE h) (fun v10 h => ?_)) ⟨rfl, rfl⟩
  conv => whnf
  refine ASeq.go tab_ok mixed_ ?_
  conv => whnf
  refine ASeq.joinW tab_ok mixed_ (fun v11 => ⟨[(1, .ptr 0 0), (2, .kb false), (3, .own 1), (5, .own 2), (33, .bool (v11))], [(0, .box 26 [.int .i64 (a0), .int .i64 (a1), .int .i64 (a2), .int .i64 (a3), .int .i64 (a4), .sl (a5) 51 (a6), .int .i64 (a7)]), (1, .arr true 29 (v9.snd.snd.snd.fst) (v9.snd.snd.snd.snd)), (2, .arr true 29 (v10.snd.snd.snd.fst) (v10.snd.snd.snd.snd))], 3, [], []⟩) h (fun Q h => ?_) (fun v11 h => ?_)
  · conv => whnf
    refine ACalls.inn (c_law14_fixed (W.bindE h) (fun v12 h => ?_)) ⟨rfl, rfl⟩
    conv => whnf
    refine XSplit.mk (fun e => ?_) (fun e => ?_)
    · replace h := XSplit.t h e
      conv => whnf
      refine ⟨_, Weak.a ?_, h⟩; (conv => whnf); exact ⟨rfl, rfl, rfl, rfl, rfl⟩
    · replace h := XSplit.f h e
      conv => whnf
      refine ACalls.inn (c_ref14_Same (W.bindE h) (fun v13 h => ?_)) ⟨rfl, rfl⟩
      conv => whnf
      refine ⟨_, Weak.a ?_, h⟩; (conv => whnf); exact ⟨rfl, rfl, rfl, rfl, rfl⟩
  · conv => whnf
    refine XSplit.mk (fun e => ?_) (fun e => ?_)
    · replace h := XSplit.t h e
      conv => whnf
      refine ⟨_, Weak.a ?_, ?_, h⟩; (conv => whnf); exact ⟨rfl, rfl, rfl, rfl, rfl⟩; exact rfl
    · replace h := XSplit.f h e
      conv => whnf
      refine ACalls.inn (c_flow_Spread (W.bindE h) (fun v14 h => ?_)) ⟨rfl, rfl⟩
      conv => whnf
      refine ASeq.go tab_ok mixed_ ?_
      conv => whnf
      refine ALoop.ofW tab_ok mixed_ (fun v15 => ⟨[(2, .kb false), (3, .own 0), (5, .own 1), (7, .own 2), (40, .int .i64 ((↑(List.length v9.snd.snd.snd.snd) : Int))), (41, .int .i64 (v15.fst))], [(0, .arr true 29 (v9.snd.snd.snd.fst) (v15.snd)), (1, .arr true 29 (v10.snd.snd.snd.fst) (v10.snd.snd.snd.snd)), (2, .arr true 29 (v14.snd.snd.snd.fst) (v14.snd.snd.snd.snd))], 3, [], []⟩) (fun v16 => (.exit 0, ⟨[(2, .kb false), (3, .own 0), (5, .own 1), (7, .own 2)], [(0, .arr true 29 (v9.snd.snd.snd.fst) (v16)), (1, .arr true 29 (v10.snd.snd.snd.fst) (v10.snd.snd.snd.snd)), (2, .arr true 29 (v14.snd.snd.snd.fst) (v14.snd.snd.snd.snd))], 3, [], []⟩)) (W.bindE h) (Weak.a ?_) (fun v15 J_ Q h => ?_) (fun v16 h => ?_)
      · conv => whnf
        exact ⟨rfl, rfl, rfl, rfl, rfl⟩
      · conv => whnf
        refine ASeq.go tab_ok mixed_ ?_
        conv => whnf
        refine XSplit.mk (fun e => ?_) (fun e => ?_)
        · replace h := XSplit.t h e
          conv => whnf
          refine ASeq.go tab_ok mixed_ ?_
          conv => whnf
          refine XNeed.mk (XNeed.c h) ?_; replace h := XNeed.x h
          conv => whnf
          refine ⟨_, Weak.a ?_, h⟩; (conv => whnf); exact ⟨rfl, rfl, rfl, rfl, rfl⟩
        · replace h := XSplit.f h e
          conv => whnf
          refine ⟨_, ?_, Weak.a ?_, h⟩; exact rfl; (conv => whnf); exact ⟨rfl, rfl, rfl, rfl, rfl⟩
      · conv => whnf
        refine ASeq.go tab_ok mixed_ ?_
        conv => whnf
        refine ALoop.unroll tab_ok mixed_ (kn := fun st => ALoop Tryz.prog tab _ _ _ _ st _) (fun _ h => h) ?_
        conv => whnf
        refine ASeq.go tab_ok mixed_ ?_
        conv => whnf
        refine XSplit.tt rfl ?_
        conv => whnf
        refine ASeq.go tab_ok mixed_ ?_
        conv => whnf
        refine XNeed.mk (XNeed.c h) ?_; replace h := XNeed.x h
        conv => whnf
        refine ALoop.unroll tab_ok mixed_ (kn := fun st => ALoop Tryz.prog tab _ _ _ _ st _) (fun _ h => h) ?_
        conv => whnf
        refine ASeq.go tab_ok mixed_ ?_
        conv => whnf
        refine XSplit.tt rfl ?_
        conv => whnf
        refine ASeq.go tab_ok mixed_ ?_
        conv => whnf
        refine XNeed.mk (XNeed.c h) ?_; replace h := XNeed.x h
        conv => whnf
        refine ALoop.unroll tab_ok mixed_ (kn := fun st => ALoop Tryz.prog tab _ _ _ _ st _) (fun _ h => h) ?_
        conv => whnf
        refine ASeq.go tab_ok mixed_ ?_
        conv => whnf
        refine XSplit.tt rfl ?_
        conv => whnf
        refine ASeq.go tab_ok mixed_ ?_
        conv => whnf
        refine XNeed.mk (XNeed.c h) ?_; replace h := XNeed.x h
        conv => whnf
        refine ALoop.unroll tab_ok mixed_ (kn := fun st => ALoop Tryz.prog tab _ _ _ _ st _) (fun _ h => h) ?_
        conv => whnf
        refine ASeq.go tab_ok mixed_ ?_
        conv => whnf
        refine XSplit.tt rfl ?_
        conv => whnf
        refine ASeq.go tab_ok mixed_ ?_
        conv => whnf
        refine XNeed.mk (XNeed.c h) ?_; replace h := XNeed.x h
        conv => whnf
        refine ALoop.unroll tab_ok mixed_ (kn := fun st => ALoop Tryz.prog tab _ _ _ _ st _) (fun _ h => h) ?_
        conv => whnf
        refine ASeq.go tab_ok mixed_ ?_
        conv => whnf
        refine XSplit.tt rfl ?_
        conv => whnf
        refine ASeq.go tab_ok mixed_ ?_
        conv => whnf
        refine XNeed.mk (XNeed.c h) ?_; replace h := XNeed.x h
        conv => whnf
        refine ALoop.unroll tab_ok mixed_ (kn := fun st => ALoop Tryz.prog tab _ _ _ _ st _) (fun _ h => h) ?_
        conv => whnf
        refine ASeq.go tab_ok mixed_ ?_
        conv => whnf
        refine XSplit.tt rfl ?_
        conv => whnf
        refine ASeq.go tab_ok mixed_ ?_
        conv => whnf
        refine XNeed.mk (XNeed.c h) ?_; replace h := XNeed.x h
        conv => whnf
        refine ALoop.unroll tab_ok mixed_ (kn := fun st => ALoop Tryz.prog tab _ _ _ _ st _) (fun _ h => h) ?_
        conv => whnf
        refine ASeq.go tab_ok mixed_ ?_
        conv => whnf
        refine XSplit.tt rfl ?_
        conv => whnf
        refine ASeq.go tab_ok mixed_ ?_
        conv => whnf
        refine XNeed.mk (XNeed.c h) ?_; replace h := XNeed.x h
        conv => whnf
        refine ALoop.unroll tab_ok mixed_ (kn := fun st => ALoop Tryz.prog tab _ _ _ _ st _) (fun _ h => h) ?_
        conv => whnf
        refine ASeq.go tab_ok mixed_ ?_
        conv => whnf
        refine XSplit.tt rfl ?_
        conv => whnf
        refine ASeq.go tab_ok mixed_ ?_
        conv => whnf
        refine XNeed.mk (XNeed.c h) ?_; replace h := XNeed.x h
        conv => whnf
        refine ALoop.unroll tab_ok mixed_ (kn := fun st => ALoop Tryz.prog tab _ _ _ _ st _) (fun _ h => h) ?_
        conv => whnf
        refine ASeq.go tab_ok mixed_ ?_
        conv => whnf
        refine XSplit.tt rfl ?_
        conv => whnf
        refine ASeq.go tab_ok mixed_ ?_
        conv => whnf
        refine XNeed.mk (XNeed.c h) ?_; replace h := XNeed.x h
        conv => whnf
        refine ALoop.unroll tab_ok mixed_ (kn := fun st => ALoop Tryz.prog tab _ _ _ _ st _) (fun _ h => h) ?_
        conv => whnf
        refine ASeq.go tab_ok mixed_ ?_
        conv => whnf
        refine XSplit.tt rfl ?_
        conv => whnf
        refine ASeq.go tab_ok mixed_ ?_
        conv => whnf
        refine XNeed.mk (XNeed.c h) ?_; replace h := XNeed.x h
        conv => whnf
        refine ALoop.unroll tab_ok mixed_ (kn := fun st => ALoop Tryz.prog tab _ _ _ _ st _) (fun _ h => h) ?_
        conv => whnf
        refine ASeq.go tab_ok mixed_ ?_
        conv => whnf
        refine XSplit.tt rfl ?_
        conv => whnf
        refine ASeq.go tab_ok mixed_ ?_
        conv => whnf
        refine XNeed.mk (XNeed.c h) ?_; replace h := XNeed.x h
        conv => whnf
        refine ALoop.unroll tab_ok mixed_ (kn := fun st => ALoop Tryz.prog tab _ _ _ _ st _) (fun _ h => h) ?_
        conv => whnf
        refine ASeq.go tab_ok mixed_ ?_
        conv => whnf
        refine XSplit.tt rfl ?_
        conv => whnf
        refine ASeq.go tab_ok mixed_ ?_
        conv => whnf
        refine XNeed.mk (XNeed.c h) ?_; replace h := XNeed.x h
        conv => whnf
        refine ALoop.unroll tab_ok mixed_ (kn := fun st => ALoop Tryz.prog tab _ _ _ _ st _) (fun _ h => h) ?_
        conv => whnf
        refine ASeq.go tab_ok mixed_ ?_
        conv => whnf
        refine XSplit.tt rfl ?_
        conv => whnf
        refine ASeq.go tab_ok mixed_ ?_
        conv => whnf
        refine XNeed.mk (XNeed.c h) ?_; replace h := XNeed.x h
        conv => whnf
        refine ALoop.unroll tab_ok mixed_ (kn := fun st => ALoop Tryz.prog tab _ _ _ _ st _) (fun _ h => h) ?_
        conv => whnf
        refine ASeq.go tab_ok mixed_ ?_
        conv => whnf
        refine XSplit.tt rfl ?_
        conv => whnf
        refine ASeq.go tab_ok mixed_ ?_
        conv => whnf
        refine XNeed.mk (XNeed.c h) ?_; replace h := XNeed.x h
        conv => whnf
        refine ALoop.unroll tab_ok mixed_ (kn := fun st => ALoop Tryz.prog tab _ _ _ _ st _) (fun _ h => h) ?_
        conv => whnf
        refine ASeq.go tab_ok mixed_ ?_
        conv => whnf
        refine XSplit.tt rfl ?_
        conv => whnf
        refine ASeq.go tab_ok mixed_ ?_
        conv => whnf
        refine XNeed.mk (XNeed.c h) ?_; replace h := XNeed.x h
        conv => whnf
        refine ALoop.unroll tab_ok mixed_ (kn := fun st => ALoop Tryz.prog tab _ _ _ _ st _) (fun _ h => h) ?_
        conv => whnf
        refine ASeq.go tab_ok mixed_ ?_
        conv => whnf
        refine XSplit.tt rfl ?_
        conv => whnf
        refine ASeq.go tab_ok mixed_ ?_
        conv => whnf
        refine XNeed.mk (XNeed.c h) ?_; replace h := XNeed.x h
        conv => whnf
        refine ALoop.unroll tab_ok mixed_ (kn := fun st => ALoop Tryz.prog tab _ _ _ _ st _) (fun _ h => h) ?_
        conv => whnf
        refine ASeq.go tab_ok mixed_ ?_
        conv => whnf
        refine XSplit.tt rfl ?_
        conv => whnf
        refine ASeq.go tab_ok mixed_ ?_
        conv => whnf
        refine XNeed.mk (XNeed.c h) ?_; replace h := XNeed.x h
        conv => whnf
        refine ALoop.unroll tab_ok mixed_ (kn := fun st => ALoop Tryz.prog tab _ _ _ _ st _) (fun _ h => h) ?_
        conv => whnf
        refine ASeq.go tab_ok mixed_ ?_
        conv => whnf
        refine XSplit.tt rfl ?_
        conv => whnf
        refine ASeq.go tab_ok mixed_ ?_
        conv => whnf
        refine XNeed.mk (XNeed.c h) ?_; replace h := XNeed.x h
        conv => whnf
        refine ALoop.unroll tab_ok mixed_ (kn := fun st => ALoop Tryz.prog tab _ _ _ _ st _) (fun _ h => h) ?_
        conv => whnf
        refine ASeq.go tab_ok mixed_ ?_
        conv => whnf
        refine XSplit.tt rfl ?_
        conv => whnf
        refine ASeq.go tab_ok mixed_ ?_
        conv => whnf
        refine XNeed.mk (XNeed.c h) ?_; replace h := XNeed.x h
        conv => whnf
        refine ALoop.unroll tab_ok mixed_ (kn := fun st => ALoop Tryz.prog tab _ _ _ _ st _) (fun _ h => h) ?_
        conv => whnf
        refine ASeq.go tab_ok mixed_ ?_
        conv => whnf
        refine XSplit.tt rfl ?_
        conv => whnf
        refine ASeq.go tab_ok mixed_ ?_
        conv => whnf
        refine XNeed.mk (XNeed.c h) ?_; replace h := XNeed.x h
        conv => whnf
        refine ALoop.unroll tab_ok mixed_ (kn := fun st => ALoop Tryz.prog tab _ _ _ _ st _) (fun _ h => h) ?_
        conv => whnf
        refine ASeq.go tab_ok mixed_ ?_
        conv => whnf
        refine XSplit.ff rfl ?_
        conv => whnf
        refine ACalls.inn (c_ref14_Same (W.bindE h) (fun v17 h => ?_)) ⟨rfl, rfl⟩
        conv => whnf
        refine XNeed.mk (XNeed.c h) ?_; replace h := XNeed.x h
        conv => whnf
        refine ⟨_, Weak.a ?_, ?_, h⟩; (conv => whnf); exact ⟨rfl, rfl, rfl, rfl, rfl⟩; exact rfl
end Go.Proofs.YtgeedlfnjneeiaaGreat.V14z
