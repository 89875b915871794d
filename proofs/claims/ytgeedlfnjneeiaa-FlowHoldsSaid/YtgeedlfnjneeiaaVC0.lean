/- The functions are their pure forms. -/
import Derived.Test.YtgeedlfnjneeiaaVS
import Derived.Test.YtgeedlfnjneeiaaVX2
import Derived.Test.YtgeedlfnjneeiaaVX3
set_option linter.unusedVariables false
set_option linter.unusedSimpArgs false
set_option maxRecDepth 100000
set_option maxHeartbeats 0
namespace Go.Proofs.Ytgeedlfnjneeiaa.V14
open Go.Proofs Go.Proofs.Ytgeedlfnjneeiaa.VX
theorem c_law14_one {Q : Int × Int × Int × Int × Int × Int × Bool × Rws → Prop} {R : AV → List AB → Prop} (h : (g_law14_one).run Q) (k : ∀ r, Q r → R (.agg [.int .i64 (r.fst), .int .i64 (r.snd.fst), .int .i64 (r.snd.snd.fst), .int .i64 (r.snd.snd.snd.fst), .int .i64 (r.snd.snd.snd.snd.fst), .own 0, .int .i64 (r.snd.snd.snd.snd.snd.fst)]) ([.arr true 45 (r.snd.snd.snd.snd.snd.snd.fst) (r.snd.snd.snd.snd.snd.snd.snd)])) : ACalls Try.prog tab 12 [] [] R := by
  refine ACalls.out (fun r => .agg [.int .i64 (r.fst), .int .i64 (r.snd.fst), .int .i64 (r.snd.snd.fst), .int .i64 (r.snd.snd.snd.fst), .int .i64 (r.snd.snd.snd.snd.fst), .own 0, .int .i64 (r.snd.snd.snd.snd.snd.fst)]) (fun r => [.arr true 45 (r.snd.snd.snd.snd.snd.snd.fst) (r.snd.snd.snd.snd.snd.snd.snd)]) (Q := Q) (ACalls.introX (mv := mv) tab_ok mixed_ (fn := Try.f12) (by kernel_rfl) rfl (by kernel_rfl) (by kernel_rfl) (leB rfl) ?_) (fun v => by first | exact ⟨rfl, leB rfl⟩ | (cases v <;> exact ⟨rfl, leB rfl⟩)) k
  conv => whnf
  refine ⟨_, Weak.a ?_, ?_, h⟩; (conv => whnf); exact ⟨rfl, rfl, rfl, rfl, rfl⟩; exact rfl
theorem c_shape_Elems {a0 : Int} {a1 : Int} {a2 : Int} {Q : Int × Int → Prop} {R : AV → List AB → Prop} (h : (g_shape_Elems a0 a1 a2).run Q) (k : ∀ r, Q r → R (.tup [.int .i64 (r.fst), .int .i64 (r.snd)]) ([])) : ACalls Try.prog tab 38 [.agg [.int .i64 (a0), .int .i64 (a1), .int .i64 (a2)]] [] R := by
  refine ACalls.out (fun r => .tup [.int .i64 (r.fst), .int .i64 (r.snd)]) (fun r => []) (Q := Q) (ACalls.introX (mv := mv) tab_ok mixed_ (fn := Try.f38) (by kernel_rfl) rfl (by kernel_rfl) (by kernel_rfl) (leB rfl) ?_) (fun v => by first | exact ⟨rfl, leB rfl⟩ | (cases v <;> exact ⟨rfl, leB rfl⟩)) k
  conv => whnf
  refine ASeq.go tab_ok mixed_ ?_
  conv => whnf
  refine ALoop.unroll tab_ok mixed_ (kn := fun st => ALoop Try.prog tab _ _ _ _ st _) (fun _ h => h) ?_
  conv => whnf
  refine ASeq.go tab_ok mixed_ ?_
  conv => whnf
  refine XSplit.tt rfl ?_
  conv => whnf
  refine ASeq.go tab_ok mixed_ ?_
  conv => whnf
  refine XNeed.mk (of_decide_eq_true rfl) ?_
  conv => whnf
  refine ASeq.go tab_ok mixed_ ?_
  conv => whnf
  refine XSplit.mk (fun e => ?_) (fun e => ?_)
  · replace h := XSplit.t h e
    conv => whnf
    refine ⟨_, Weak.a ?_, ?_, h⟩; (conv => whnf); exact ⟨rfl, rfl, rfl, rfl, rfl⟩; exact rfl
  · replace h := XSplit.f h e
    conv => whnf
    refine ALoop.unroll tab_ok mixed_ (kn := fun st => ALoop Try.prog tab _ _ _ _ st _) (fun _ h => h) ?_
    conv => whnf
    refine ASeq.go tab_ok mixed_ ?_
    conv => whnf
    refine XSplit.tt rfl ?_
    conv => whnf
    refine ASeq.go tab_ok mixed_ ?_
    conv => whnf
    refine XNeed.mk (of_decide_eq_true rfl) ?_
    conv => whnf
    refine ASeq.go tab_ok mixed_ ?_
    conv => whnf
    refine XSplit.mk (fun e => ?_) (fun e => ?_)
    · replace h := XSplit.t h e
      conv => whnf
      refine ⟨_, Weak.a ?_, ?_, h⟩; (conv => whnf); exact ⟨rfl, rfl, rfl, rfl, rfl⟩; exact rfl
    · replace h := XSplit.f h e
      conv => whnf
      refine ALoop.unroll tab_ok mixed_ (kn := fun st => ALoop Try.prog tab _ _ _ _ st _) (fun _ h => h) ?_
      conv => whnf
      refine ASeq.go tab_ok mixed_ ?_
      conv => whnf
      refine XSplit.tt rfl ?_
      conv => whnf
      refine ASeq.go tab_ok mixed_ ?_
      conv => whnf
      refine XNeed.mk (of_decide_eq_true rfl) ?_
      conv => whnf
      refine ASeq.go tab_ok mixed_ ?_
      conv => whnf
      refine XSplit.mk (fun e => ?_) (fun e => ?_)
      · replace h := XSplit.t h e
        conv => whnf
        refine ⟨_, Weak.a ?_, ?_, h⟩; (conv => whnf); exact ⟨rfl, rfl, rfl, rfl, rfl⟩; exact rfl
      · replace h := XSplit.f h e
        conv => whnf
        refine ALoop.unroll tab_ok mixed_ (kn := fun st => ALoop Try.prog tab _ _ _ _ st _) (fun _ h => h) ?_
        conv => whnf
        refine ASeq.go tab_ok mixed_ ?_
        conv => whnf
        refine XSplit.ff rfl ?_
        conv => whnf
        refine ASeq.go tab_ok mixed_ ?_
        conv => whnf
        refine XSplit.mk (fun e => ?_) (fun e => ?_)
        · replace h := XSplit.t h e
          conv => whnf
          refine ⟨_, Weak.a ?_, ?_, h⟩; (conv => whnf); exact ⟨rfl, rfl, rfl, rfl, rfl⟩; exact rfl
        · replace h := XSplit.f h e
          conv => whnf
          refine ⟨_, Weak.a ?_, ?_, h⟩; (conv => whnf); exact ⟨rfl, rfl, rfl, rfl, rfl⟩; exact rfl
theorem c_model_byte8 {a0 : Bool} {a1 : Rws} {Q : Bool → Prop} {R : AV → List AB → Prop} (h : (g_model_byte8 a0 a1).run Q) (k : ∀ r, Q r → R (.bool (r)) ([])) : ACalls Try.prog tab 39 [.sl (a0) 3 (a1)] [] R := by
  refine ACalls.out (fun r => .bool (r)) (fun r => []) (Q := Q) (ACalls.introX (mv := mv) tab_ok mixed_ (fn := Try.f39) (by kernel_rfl) rfl (by kernel_rfl) (by kernel_rfl) (leB rfl) ?_) (fun v => by first | exact ⟨rfl, leB rfl⟩ | (cases v <;> exact ⟨rfl, leB rfl⟩)) k
  conv => whnf
  refine ASeq.go tab_ok mixed_ ?_
  conv => whnf
  refine ALoop.ofW tab_ok mixed_ (fun v3 => ⟨[(2, .kb false), (5, .sl (a0) 3 (a1)), (6, .int .i64 ((↑(List.length a1) : Int))), (7, .int .i64 (v3))], [], 0, [], []⟩) (sx (fun v4 => (.ret, ⟨[(2, .kb false)], [], 0, [], []⟩)) (fun v5 => (.exit 0, ⟨[(2, .kb false)], [], 0, [], []⟩))) (W.bindE h) (Weak.a ?_) (fun v3 J_ Q h => ?_) (fun v h => ?_)
  · conv => whnf
    exact ⟨rfl, rfl, rfl, rfl, rfl⟩
  · conv => whnf
    refine ASeq.go tab_ok mixed_ ?_
    conv => whnf
    refine XSplit.mk (fun e => ?_) (fun e => ?_)
    · replace h := XSplit.t h e
      conv => whnf
      refine ASeq.go tab_ok mixed_ ?_
      conv => whnf
      refine XNeed.mk (XNeed.c h) ?_; replace h := XNeed.x h
      conv => whnf
      refine XSplit.mk (fun e => ?_) (fun e => ?_)
      · replace h := XSplit.t h e
        conv => whnf
        refine ⟨_, ?_, Weak.a ?_, h⟩; exact rfl; (conv => whnf); exact ⟨rfl, rfl, rfl, rfl, rfl⟩
      · replace h := XSplit.f h e
        conv => whnf
        refine ⟨_, Weak.a ?_, h⟩; (conv => whnf); exact ⟨rfl, rfl, rfl, rfl, rfl⟩
    · replace h := XSplit.f h e
      conv => whnf
      refine ⟨_, ?_, Weak.a ?_, h⟩; exact rfl; (conv => whnf); exact ⟨rfl, rfl, rfl, rfl, rfl⟩
  · rcases v with v4 | v5
    · conv => whnf
      refine ⟨_, Weak.a ?_, ?_, h⟩; (conv => whnf); exact ⟨rfl, rfl, rfl, rfl, rfl⟩; exact rfl
    · conv => whnf
      refine ⟨_, Weak.a ?_, ?_, h⟩; (conv => whnf); exact ⟨rfl, rfl, rfl, rfl, rfl⟩; exact rfl
theorem c_model_of {a0 : Int} {Q : Bool × Bool × Bool × Bool × Bool × Bool × Bool × Bool × Bool → Prop} {R : AV → List AB → Prop} (h : (g_model_of a0).run Q) (k : ∀ r, Q r → R (.tup [.agg [.bool (r.fst), .bool (r.snd.fst), .bool (r.snd.snd.fst), .bool (r.snd.snd.snd.fst), .bool (r.snd.snd.snd.snd.fst), .bool (r.snd.snd.snd.snd.snd.fst), .bool (r.snd.snd.snd.snd.snd.snd.fst), .bool (r.snd.snd.snd.snd.snd.snd.snd.fst)], .bool (r.snd.snd.snd.snd.snd.snd.snd.snd)]) ([])) : ACalls Try.prog tab 65 [.int .i64 (a0)] [] R := by
  refine ACalls.out (fun r => .tup [.agg [.bool (r.fst), .bool (r.snd.fst), .bool (r.snd.snd.fst), .bool (r.snd.snd.snd.fst), .bool (r.snd.snd.snd.snd.fst), .bool (r.snd.snd.snd.snd.snd.fst), .bool (r.snd.snd.snd.snd.snd.snd.fst), .bool (r.snd.snd.snd.snd.snd.snd.snd.fst)], .bool (r.snd.snd.snd.snd.snd.snd.snd.snd)]) (fun r => []) (Q := Q) (ACalls.introX (mv := mv) tab_ok mixed_ (fn := Try.f65) (by kernel_rfl) rfl (by kernel_rfl) (by kernel_rfl) (leB rfl) ?_) (fun v => by first | exact ⟨rfl, leB rfl⟩ | (cases v <;> exact ⟨rfl, leB rfl⟩)) k
  conv => whnf
  refine ASeq.go tab_ok mixed_ ?_
  conv => whnf
  refine XSplit.mk (fun e => ?_) (fun e => ?_)
  · replace h := XSplit.t h e
    conv => whnf
    refine ⟨_, Weak.a ?_, ?_, h⟩; (conv => whnf); exact ⟨rfl, rfl, rfl, rfl, rfl⟩; exact rfl
  · replace h := XSplit.f h e
    conv => whnf
    refine XSplit.mk (fun e => ?_) (fun e => ?_)
    · replace h := XSplit.t h e
      conv => whnf
      refine ⟨_, Weak.a ?_, ?_, h⟩; (conv => whnf); exact ⟨rfl, rfl, rfl, rfl, rfl⟩; exact rfl
    · replace h := XSplit.f h e
      conv => whnf
      refine XSplit.mk (fun e => ?_) (fun e => ?_)
      · replace h := XSplit.t h e
        conv => whnf
        refine ⟨_, Weak.a ?_, ?_, h⟩; (conv => whnf); exact ⟨rfl, rfl, rfl, rfl, rfl⟩; exact rfl
      · replace h := XSplit.f h e
        conv => whnf
        refine ASeq.joinW tab_ok mixed_ (fun v1 => ⟨[(2, .ptr 0 0), (3, .kb false), (4, .int .i64 (a0)), (14, .bool (v1))], [(0, .box 127 [.kb false, .kb false, .kb false, .kb false, .kb false, .kb false, .kb false, .kb false])], 1, [], []⟩) h (fun Q h => ?_) (fun v1 h => ?_)
        · conv => whnf
          refine XSplit.mk (fun e => ?_) (fun e => ?_)
          · replace h := XSplit.t h e
            conv => whnf
            refine ⟨_, Weak.a ?_, h⟩; (conv => whnf); exact ⟨rfl, rfl, rfl, rfl, rfl⟩
          · replace h := XSplit.f h e
            conv => whnf
            refine ⟨_, Weak.a ?_, h⟩; (conv => whnf); exact ⟨rfl, rfl, rfl, rfl, rfl⟩
        · conv => whnf
          refine XSplit.mk (fun e => ?_) (fun e => ?_)
          · replace h := XSplit.t h e
            conv => whnf
            refine ⟨_, Weak.a ?_, ?_, h⟩; (conv => whnf); exact ⟨rfl, rfl, rfl, rfl, rfl⟩; exact rfl
          · replace h := XSplit.f h e
            conv => whnf
            refine XSplit.mk (fun e => ?_) (fun e => ?_)
            · replace h := XSplit.t h e
              conv => whnf
              refine ⟨_, Weak.a ?_, ?_, h⟩; (conv => whnf); exact ⟨rfl, rfl, rfl, rfl, rfl⟩; exact rfl
            · replace h := XSplit.f h e
              conv => whnf
              refine XSplit.mk (fun e => ?_) (fun e => ?_)
              · replace h := XSplit.t h e
                conv => whnf
                refine ⟨_, Weak.a ?_, ?_, h⟩; (conv => whnf); exact ⟨rfl, rfl, rfl, rfl, rfl⟩; exact rfl
              · replace h := XSplit.f h e
                conv => whnf
                refine XSplit.mk (fun e => ?_) (fun e => ?_)
                · replace h := XSplit.t h e
                  conv => whnf
                  refine ⟨_, Weak.a ?_, ?_, h⟩; (conv => whnf); exact ⟨rfl, rfl, rfl, rfl, rfl⟩; exact rfl
                · replace h := XSplit.f h e
                  conv => whnf
                  refine ⟨_, Weak.a ?_, ?_, h⟩; (conv => whnf); exact ⟨rfl, rfl, rfl, rfl, rfl⟩; exact rfl
theorem c_model_bare {a0 : Int} {a1 : Int} {a2 : Int} {a3 : Int} {a4 : Int} {a5 : Int} {a6 : Int} {a7 : Int} {a8 : Int} {a9 : Int} {a10 : Int} {a11 : Int} {a12 : Bool} {a13 : Rws} {a14 : Bool} {a15 : Rws} {a16 : Int} {a17 : Int} {a18 : Int} {a19 : Int} {a20 : Int} {a21 : Int} {a22 : Int} {a23 : Int} {a24 : Bool} {a25 : Bool} {a26 : Bool} {a27 : Bool} {a28 : Bool} {a29 : Bool} {a30 : Bool} {a31 : Bool} {Q : Int × Int × Int × Int × Int × Int × Int × Int × Int × Int × Int × Int × Bool × Rws × Bool × Rws × Int × Int × Int × Int × Int × Int × Int × Int → Prop} {R : AV → List AB → Prop} (h : (g_model_bare a0 a1 a2 a3 a4 a5 a6 a7 a8 a9 a10 a11 a12 a13 a14 a15 a16 a17 a18 a19 a20 a21 a22 a23 a24 a25 a26 a27 a28 a29 a30 a31).run Q) (k : ∀ r, Q r → R (.agg [.int .i64 (r.fst), .int .i64 (r.snd.fst), .int .i64 (r.snd.snd.fst), .int .i64 (r.snd.snd.snd.fst), .int .i64 (r.snd.snd.snd.snd.fst), .int .i64 (r.snd.snd.snd.snd.snd.fst), .int .i64 (r.snd.snd.snd.snd.snd.snd.fst), .int .i64 (r.snd.snd.snd.snd.snd.snd.snd.fst), .int .i64 (r.snd.snd.snd.snd.snd.snd.snd.snd.fst), .int .i64 (r.snd.snd.snd.snd.snd.snd.snd.snd.snd.fst), .int .i64 (r.snd.snd.snd.snd.snd.snd.snd.snd.snd.snd.fst), .int .i64 (r.snd.snd.snd.snd.snd.snd.snd.snd.snd.snd.snd.fst), .sl (r.snd.snd.snd.snd.snd.snd.snd.snd.snd.snd.snd.snd.fst) 74 (r.snd.snd.snd.snd.snd.snd.snd.snd.snd.snd.snd.snd.snd.fst), .sl (r.snd.snd.snd.snd.snd.snd.snd.snd.snd.snd.snd.snd.snd.snd.fst) 21 (r.snd.snd.snd.snd.snd.snd.snd.snd.snd.snd.snd.snd.snd.snd.snd.fst), .int .i64 (r.snd.snd.snd.snd.snd.snd.snd.snd.snd.snd.snd.snd.snd.snd.snd.snd.fst), .int .i64 (r.snd.snd.snd.snd.snd.snd.snd.snd.snd.snd.snd.snd.snd.snd.snd.snd.snd.fst), .int .i64 (r.snd.snd.snd.snd.snd.snd.snd.snd.snd.snd.snd.snd.snd.snd.snd.snd.snd.snd.fst), .int .i64 (r.snd.snd.snd.snd.snd.snd.snd.snd.snd.snd.snd.snd.snd.snd.snd.snd.snd.snd.snd.fst), .int .i64 (r.snd.snd.snd.snd.snd.snd.snd.snd.snd.snd.snd.snd.snd.snd.snd.snd.snd.snd.snd.snd.fst), .int .i64 (r.snd.snd.snd.snd.snd.snd.snd.snd.snd.snd.snd.snd.snd.snd.snd.snd.snd.snd.snd.snd.snd.fst), .int .i64 (r.snd.snd.snd.snd.snd.snd.snd.snd.snd.snd.snd.snd.snd.snd.snd.snd.snd.snd.snd.snd.snd.snd.fst), .int .i64 (r.snd.snd.snd.snd.snd.snd.snd.snd.snd.snd.snd.snd.snd.snd.snd.snd.snd.snd.snd.snd.snd.snd.snd)]) ([])) : ACalls Try.prog tab 67 [.agg [.int .i64 (a0), .int .i64 (a1), .int .i64 (a2), .int .i64 (a3), .int .i64 (a4), .int .i64 (a5), .int .i64 (a6), .int .i64 (a7), .int .i64 (a8), .int .i64 (a9), .int .i64 (a10), .int .i64 (a11), .sl (a12) 74 (a13), .sl (a14) 21 (a15), .int .i64 (a16), .int .i64 (a17), .int .i64 (a18), .int .i64 (a19), .int .i64 (a20), .int .i64 (a21), .int .i64 (a22), .int .i64 (a23)], .agg [.bool (a24), .bool (a25), .bool (a26), .bool (a27), .bool (a28), .bool (a29), .bool (a30), .bool (a31)]] [] R := by
  refine ACalls.out (fun r => .agg [.int .i64 (r.fst), .int .i64 (r.snd.fst), .int .i64 (r.snd.snd.fst), .int .i64 (r.snd.snd.snd.fst), .int .i64 (r.snd.snd.snd.snd.fst), .int .i64 (r.snd.snd.snd.snd.snd.fst), .int .i64 (r.snd.snd.snd.snd.snd.snd.fst), .int .i64 (r.snd.snd.snd.snd.snd.snd.snd.fst), .int .i64 (r.snd.snd.snd.snd.snd.snd.snd.snd.fst), .int .i64 (r.snd.snd.snd.snd.snd.snd.snd.snd.snd.fst), .int .i64 (r.snd.snd.snd.snd.snd.snd.snd.snd.snd.snd.fst), .int .i64 (r.snd.snd.snd.snd.snd.snd.snd.snd.snd.snd.snd.fst), .sl (r.snd.snd.snd.snd.snd.snd.snd.snd.snd.snd.snd.snd.fst) 74 (r.snd.snd.snd.snd.snd.snd.snd.snd.snd.snd.snd.snd.snd.fst), .sl (r.snd.snd.snd.snd.snd.snd.snd.snd.snd.snd.snd.snd.snd.snd.fst) 21 (r.snd.snd.snd.snd.snd.snd.snd.snd.snd.snd.snd.snd.snd.snd.snd.fst), .int .i64 (r.snd.snd.snd.snd.snd.snd.snd.snd.snd.snd.snd.snd.snd.snd.snd.snd.fst), .int .i64 (r.snd.snd.snd.snd.snd.snd.snd.snd.snd.snd.snd.snd.snd.snd.snd.snd.snd.fst), .int .i64 (r.snd.snd.snd.snd.snd.snd.snd.snd.snd.snd.snd.snd.snd.snd.snd.snd.snd.snd.fst), .int .i64 (r.snd.snd.snd.snd.snd.snd.snd.snd.snd.snd.snd.snd.snd.snd.snd.snd.snd.snd.snd.fst), .int .i64 (r.snd.snd.snd.snd.snd.snd.snd.snd.snd.snd.snd.snd.snd.snd.snd.snd.snd.snd.snd.snd.fst), .int .i64 (r.snd.snd.snd.snd.snd.snd.snd.snd.snd.snd.snd.snd.snd.snd.snd.snd.snd.snd.snd.snd.snd.fst), .int .i64 (r.snd.snd.snd.snd.snd.snd.snd.snd.snd.snd.snd.snd.snd.snd.snd.snd.snd.snd.snd.snd.snd.snd.fst), .int .i64 (r.snd.snd.snd.snd.snd.snd.snd.snd.snd.snd.snd.snd.snd.snd.snd.snd.snd.snd.snd.snd.snd.snd.snd)]) (fun r => []) (Q := Q) (ACalls.introX (mv := mv) tab_ok mixed_ (fn := Try.f67) (by kernel_rfl) rfl (by kernel_rfl) (by kernel_rfl) (leB rfl) ?_) (fun v => by first | exact ⟨rfl, leB rfl⟩ | (cases v <;> exact ⟨rfl, leB rfl⟩)) k
  conv => whnf
  refine ASeq.joinW tab_ok mixed_ (fun v8 => ⟨[(2, .ptr 0 0), (3, .ptr 1 0), (4, .ptr 2 0)], [(0, .box 45 [.int .i64 (0), .int .i64 (0), .int .i64 (v8), .int .i64 (a3), .int .i64 (a4), .int .i64 (a5), .int .i64 (a6), .int .i64 (a7), .int .i64 (a8), .int .i64 (a9), .int .i64 (a10), .int .i64 (a11), .sl (a12) 74 (a13), .sl (a14) 21 (a15), .int .i64 (a16), .int .i64 (a17), .int .i64 (a18), .int .i64 (a19), .int .i64 (a20), .int .i64 (a21), .int .i64 (0), .int .i64 (0)]), (1, .box 127 [.bool (a24), .bool (a25), .bool (a26), .bool (a27), .bool (a28), .bool (a29), .bool (a30), .bool (a31)]), (2, .box 45 [.int .i64 (0), .int .i64 (0), .int .i64 (0), .int .i64 (0), .int .i64 (0), .int .i64 (0), .int .i64 (0), .int .i64 (0), .int .i64 (0), .int .i64 (0), .int .i64 (0), .int .i64 (0), .nils, .nils, .int .i64 (0), .int .i64 (0), .int .i64 (0), .int .i64 (0), .int .i64 (0), .int .i64 (0), .int .i64 (0), .int .i64 (0)])], 3, [], []⟩) h (fun Q h => ?_) (fun v8 h => ?_)
  · conv => whnf
    refine XSplit.mk (fun e => ?_) (fun e => ?_)
    · replace h := XSplit.t h e
      conv => whnf
      refine ⟨_, Weak.a ?_, h⟩; (conv => whnf); exact ⟨rfl, rfl, rfl, rfl, rfl⟩
    · replace h := XSplit.f h e
      conv => whnf
      refine ⟨_, Weak.a ?_, h⟩; (conv => whnf); exact ⟨rfl, rfl, rfl, rfl, rfl⟩
  · conv => whnf
    refine ASeq.joinW tab_ok mixed_ (fun v9 => ⟨[(2, .ptr 0 0), (3, .ptr 1 0), (4, .ptr 2 0)], [(0, .box 45 [.int .i64 (0), .int .i64 (0), .int .i64 (v8), .int .i64 (v9), .int .i64 (a4), .int .i64 (a5), .int .i64 (a6), .int .i64 (a7), .int .i64 (a8), .int .i64 (a9), .int .i64 (a10), .int .i64 (a11), .sl (a12) 74 (a13), .sl (a14) 21 (a15), .int .i64 (a16), .int .i64 (a17), .int .i64 (a18), .int .i64 (a19), .int .i64 (a20), .int .i64 (a21), .int .i64 (0), .int .i64 (0)]), (1, .box 127 [.bool (a24), .bool (a25), .bool (a26), .bool (a27), .bool (a28), .bool (a29), .bool (a30), .bool (a31)]), (2, .box 45 [.int .i64 (0), .int .i64 (0), .int .i64 (0), .int .i64 (0), .int .i64 (0), .int .i64 (0), .int .i64 (0), .int .i64 (0), .int .i64 (0), .int .i64 (0), .int .i64 (0), .int .i64 (0), .nils, .nils, .int .i64 (0), .int .i64 (0), .int .i64 (0), .int .i64 (0), .int .i64 (0), .int .i64 (0), .int .i64 (0), .int .i64 (0)])], 3, [], []⟩) h (fun Q h => ?_) (fun v9 h => ?_)
    · conv => whnf
      refine XSplit.mk (fun e => ?_) (fun e => ?_)
      · replace h := XSplit.t h e
        conv => whnf
        refine ⟨_, Weak.a ?_, h⟩; (conv => whnf); exact ⟨rfl, rfl, rfl, rfl, rfl⟩
      · replace h := XSplit.f h e
        conv => whnf
        refine ⟨_, Weak.a ?_, h⟩; (conv => whnf); exact ⟨rfl, rfl, rfl, rfl, rfl⟩
    · conv => whnf
      refine ASeq.joinW tab_ok mixed_ (fun v10 => ⟨[(2, .ptr 0 0), (3, .ptr 1 0), (4, .ptr 2 0)], [(0, .box 45 [.int .i64 (0), .int .i64 (0), .int .i64 (v8), .int .i64 (v9), .int .i64 (v10.fst), .int .i64 (v10.snd.fst), .int .i64 (v10.snd.snd.fst), .int .i64 (v10.snd.snd.snd), .int .i64 (a8), .int .i64 (a9), .int .i64 (a10), .int .i64 (a11), .sl (a12) 74 (a13), .sl (a14) 21 (a15), .int .i64 (a16), .int .i64 (a17), .int .i64 (a18), .int .i64 (a19), .int .i64 (a20), .int .i64 (a21), .int .i64 (0), .int .i64 (0)]), (1, .box 127 [.bool (a24), .bool (a25), .bool (a26), .bool (a27), .bool (a28), .bool (a29), .bool (a30), .bool (a31)]), (2, .box 45 [.int .i64 (0), .int .i64 (0), .int .i64 (0), .int .i64 (0), .int .i64 (0), .int .i64 (0), .int .i64 (0), .int .i64 (0), .int .i64 (0), .int .i64 (0), .int .i64 (0), .int .i64 (0), .nils, .nils, .int .i64 (0), .int .i64 (0), .int .i64 (0), .int .i64 (0), .int .i64 (0), .int .i64 (0), .int .i64 (0), .int .i64 (0)])], 3, [], []⟩) h (fun Q h => ?_) (fun v10 h => ?_)
      · conv => whnf
        refine XSplit.mk (fun e => ?_) (fun e => ?_)
        · replace h := XSplit.t h e
          conv => whnf
          refine ⟨_, Weak.a ?_, h⟩; (conv => whnf); exact ⟨rfl, rfl, rfl, rfl, rfl⟩
        · replace h := XSplit.f h e
          conv => whnf
          refine ⟨_, Weak.a ?_, h⟩; (conv => whnf); exact ⟨rfl, rfl, rfl, rfl, rfl⟩
      · conv => whnf
        refine ASeq.joinW tab_ok mixed_ (fun v11 => ⟨[(2, .ptr 0 0), (3, .ptr 1 0), (4, .ptr 2 0)], [(0, .box 45 [.int .i64 (0), .int .i64 (0), .int .i64 (v8), .int .i64 (v9), .int .i64 (v11.fst), .int .i64 (v11.snd.fst), .int .i64 (v11.snd.snd.fst), .int .i64 (v11.snd.snd.snd.fst), .int .i64 (v11.snd.snd.snd.snd.fst), .int .i64 (v11.snd.snd.snd.snd.snd.fst), .int .i64 (v11.snd.snd.snd.snd.snd.snd.fst), .int .i64 (v11.snd.snd.snd.snd.snd.snd.snd), .sl (a12) 74 (a13), .sl (a14) 21 (a15), .int .i64 (a16), .int .i64 (a17), .int .i64 (a18), .int .i64 (a19), .int .i64 (a20), .int .i64 (a21), .int .i64 (0), .int .i64 (0)]), (1, .box 127 [.bool (a24), .bool (a25), .bool (a26), .bool (a27), .bool (a28), .bool (a29), .bool (a30), .bool (a31)]), (2, .box 45 [.int .i64 (0), .int .i64 (0), .int .i64 (0), .int .i64 (0), .int .i64 (0), .int .i64 (0), .int .i64 (0), .int .i64 (0), .int .i64 (0), .int .i64 (0), .int .i64 (0), .int .i64 (0), .nils, .nils, .int .i64 (0), .int .i64 (0), .int .i64 (0), .int .i64 (0), .int .i64 (0), .int .i64 (0), .int .i64 (0), .int .i64 (0)])], 3, [], []⟩) h (fun Q h => ?_) (fun v11 h => ?_)
        · conv => whnf
          refine XSplit.mk (fun e => ?_) (fun e => ?_)
          · replace h := XSplit.t h e
            conv => whnf
            refine ⟨_, Weak.a ?_, h⟩; (conv => whnf); exact ⟨rfl, rfl, rfl, rfl, rfl⟩
          · replace h := XSplit.f h e
            conv => whnf
            refine ⟨_, Weak.a ?_, h⟩; (conv => whnf); exact ⟨rfl, rfl, rfl, rfl, rfl⟩
        · conv => whnf
          refine ASeq.joinW tab_ok mixed_ (fun v12 => ⟨[(2, .ptr 0 0), (3, .ptr 1 0), (4, .ptr 2 0)], [(0, .box 45 [.int .i64 (0), .int .i64 (0), .int .i64 (v8), .int .i64 (v9), .int .i64 (v11.fst), .int .i64 (v11.snd.fst), .int .i64 (v11.snd.snd.fst), .int .i64 (v11.snd.snd.snd.fst), .int .i64 (v11.snd.snd.snd.snd.fst), .int .i64 (v11.snd.snd.snd.snd.snd.fst), .int .i64 (v11.snd.snd.snd.snd.snd.snd.fst), .int .i64 (v11.snd.snd.snd.snd.snd.snd.snd), .sl (v12.fst) 74 (v12.snd.fst), .sl (v12.snd.snd.fst) 21 (v12.snd.snd.snd), .int .i64 (a16), .int .i64 (a17), .int .i64 (a18), .int .i64 (a19), .int .i64 (a20), .int .i64 (a21), .int .i64 (0), .int .i64 (0)]), (1, .box 127 [.bool (a24), .bool (a25), .bool (a26), .bool (a27), .bool (a28), .bool (a29), .bool (a30), .bool (a31)]), (2, .box 45 [.int .i64 (0), .int .i64 (0), .int .i64 (0), .int .i64 (0), .int .i64 (0), .int .i64 (0), .int .i64 (0), .int .i64 (0), .int .i64 (0), .int .i64 (0), .int .i64 (0), .int .i64 (0), .nils, .nils, .int .i64 (0), .int .i64 (0), .int .i64 (0), .int .i64 (0), .int .i64 (0), .int .i64 (0), .int .i64 (0), .int .i64 (0)])], 3, [], []⟩) h (fun Q h => ?_) (fun v12 h => ?_)
          · conv => whnf
            refine XSplit.mk (fun e => ?_) (fun e => ?_)
            · replace h := XSplit.t h e
              conv => whnf
              refine ⟨_, Weak.a ?_, h⟩; (conv => whnf); exact ⟨rfl, rfl, rfl, rfl, rfl⟩
            · replace h := XSplit.f h e
              conv => whnf
              refine ⟨_, Weak.a ?_, h⟩; (conv => whnf); exact ⟨rfl, rfl, rfl, rfl, rfl⟩
          · conv => whnf
            refine ASeq.joinW tab_ok mixed_ (fun v13 => ⟨[(2, .ptr 0 0), (3, .ptr 1 0), (4, .ptr 2 0)], [(0, .box 45 [.int .i64 (0), .int .i64 (0), .int .i64 (v8), .int .i64 (v9), .int .i64 (v11.fst), .int .i64 (v11.snd.fst), .int .i64 (v11.snd.snd.fst), .int .i64 (v11.snd.snd.snd.fst), .int .i64 (v11.snd.snd.snd.snd.fst), .int .i64 (v11.snd.snd.snd.snd.snd.fst), .int .i64 (v11.snd.snd.snd.snd.snd.snd.fst), .int .i64 (v11.snd.snd.snd.snd.snd.snd.snd), .sl (v12.fst) 74 (v12.snd.fst), .sl (v12.snd.snd.fst) 21 (v12.snd.snd.snd), .int .i64 (v13.fst), .int .i64 (v13.snd.fst), .int .i64 (a18), .int .i64 (a19), .int .i64 (v13.snd.snd), .int .i64 (a21), .int .i64 (0), .int .i64 (0)]), (1, .box 127 [.bool (a24), .bool (a25), .bool (a26), .bool (a27), .bool (a28), .bool (a29), .bool (a30), .bool (a31)]), (2, .box 45 [.int .i64 (0), .int .i64 (0), .int .i64 (0), .int .i64 (0), .int .i64 (0), .int .i64 (0), .int .i64 (0), .int .i64 (0), .int .i64 (0), .int .i64 (0), .int .i64 (0), .int .i64 (0), .nils, .nils, .int .i64 (0), .int .i64 (0), .int .i64 (0), .int .i64 (0), .int .i64 (0), .int .i64 (0), .int .i64 (0), .int .i64 (0)])], 3, [], []⟩) h (fun Q h => ?_) (fun v13 h => ?_)
            · conv => whnf
              refine XSplit.mk (fun e => ?_) (fun e => ?_)
              · replace h := XSplit.t h e
                conv => whnf
                refine ⟨_, Weak.a ?_, h⟩; (conv => whnf); exact ⟨rfl, rfl, rfl, rfl, rfl⟩
              · replace h := XSplit.f h e
                conv => whnf
                refine ⟨_, Weak.a ?_, h⟩; (conv => whnf); exact ⟨rfl, rfl, rfl, rfl, rfl⟩
            · conv => whnf
              refine ASeq.joinW tab_ok mixed_ (fun v14 => ⟨[(2, .ptr 0 0), (3, .ptr 1 0), (4, .ptr 2 0)], [(0, .box 45 [.int .i64 (0), .int .i64 (0), .int .i64 (v8), .int .i64 (v9), .int .i64 (v11.fst), .int .i64 (v11.snd.fst), .int .i64 (v11.snd.snd.fst), .int .i64 (v11.snd.snd.snd.fst), .int .i64 (v11.snd.snd.snd.snd.fst), .int .i64 (v11.snd.snd.snd.snd.snd.fst), .int .i64 (v11.snd.snd.snd.snd.snd.snd.fst), .int .i64 (v11.snd.snd.snd.snd.snd.snd.snd), .sl (v12.fst) 74 (v12.snd.fst), .sl (v12.snd.snd.fst) 21 (v12.snd.snd.snd), .int .i64 (v13.fst), .int .i64 (v13.snd.fst), .int .i64 (v14.fst), .int .i64 (v14.snd), .int .i64 (v13.snd.snd), .int .i64 (a21), .int .i64 (0), .int .i64 (0)]), (1, .box 127 [.bool (a24), .bool (a25), .bool (a26), .bool (a27), .bool (a28), .bool (a29), .bool (a30), .bool (a31)]), (2, .box 45 [.int .i64 (0), .int .i64 (0), .int .i64 (0), .int .i64 (0), .int .i64 (0), .int .i64 (0), .int .i64 (0), .int .i64 (0), .int .i64 (0), .int .i64 (0), .int .i64 (0), .int .i64 (0), .nils, .nils, .int .i64 (0), .int .i64 (0), .int .i64 (0), .int .i64 (0), .int .i64 (0), .int .i64 (0), .int .i64 (0), .int .i64 (0)])], 3, [], []⟩) h (fun Q h => ?_) (fun v14 h => ?_)
              · conv => whnf
                refine XSplit.mk (fun e => ?_) (fun e => ?_)
                · replace h := XSplit.t h e
                  conv => whnf
                  refine ⟨_, Weak.a ?_, h⟩; (conv => whnf); exact ⟨rfl, rfl, rfl, rfl, rfl⟩
                · replace h := XSplit.f h e
                  conv => whnf
                  refine ⟨_, Weak.a ?_, h⟩; (conv => whnf); exact ⟨rfl, rfl, rfl, rfl, rfl⟩
              · conv => whnf
                refine ASeq.joinW tab_ok mixed_ (fun v15 => ⟨[(2, .ptr 0 0), (4, .ptr 1 0)], [(0, .box 45 [.int .i64 (0), .int .i64 (0), .int .i64 (v8), .int .i64 (v9), .int .i64 (v11.fst), .int .i64 (v11.snd.fst), .int .i64 (v11.snd.snd.fst), .int .i64 (v11.snd.snd.snd.fst), .int .i64 (v11.snd.snd.snd.snd.fst), .int .i64 (v11.snd.snd.snd.snd.snd.fst), .int .i64 (v11.snd.snd.snd.snd.snd.snd.fst), .int .i64 (v11.snd.snd.snd.snd.snd.snd.snd), .sl (v12.fst) 74 (v12.snd.fst), .sl (v12.snd.snd.fst) 21 (v12.snd.snd.snd), .int .i64 (v13.fst), .int .i64 (v13.snd.fst), .int .i64 (v14.fst), .int .i64 (v14.snd), .int .i64 (v13.snd.snd), .int .i64 (v15), .int .i64 (0), .int .i64 (0)]), (1, .box 45 [.int .i64 (0), .int .i64 (0), .int .i64 (0), .int .i64 (0), .int .i64 (0), .int .i64 (0), .int .i64 (0), .int .i64 (0), .int .i64 (0), .int .i64 (0), .int .i64 (0), .int .i64 (0), .nils, .nils, .int .i64 (0), .int .i64 (0), .int .i64 (0), .int .i64 (0), .int .i64 (0), .int .i64 (0), .int .i64 (0), .int .i64 (0)])], 2, [], []⟩) h (fun Q h => ?_) (fun v15 h => ?_)
                · conv => whnf
                  refine XSplit.mk (fun e => ?_) (fun e => ?_)
                  · replace h := XSplit.t h e
                    conv => whnf
                    refine ⟨_, Weak.a ?_, h⟩; (conv => whnf); exact ⟨rfl, rfl, rfl, rfl, rfl⟩
                  · replace h := XSplit.f h e
                    conv => whnf
                    refine ⟨_, Weak.a ?_, h⟩; (conv => whnf); exact ⟨rfl, rfl, rfl, rfl, rfl⟩
                · conv => whnf
                  refine ⟨_, Weak.a ?_, ?_, h⟩; (conv => whnf); exact ⟨rfl, rfl, rfl, rfl, rfl⟩; exact rfl
theorem c_model_empty {a0 : Int} {a1 : Int} {a2 : Int} {a3 : Int} {a4 : Int} {a5 : Int} {a6 : Int} {a7 : Int} {a8 : Int} {a9 : Int} {a10 : Int} {a11 : Int} {a12 : Bool} {a13 : Rws} {a14 : Bool} {a15 : Rws} {a16 : Int} {a17 : Int} {a18 : Int} {a19 : Int} {a20 : Int} {a21 : Int} {a22 : Int} {a23 : Int} {Q : Bool → Prop} {R : AV → List AB → Prop} (h : (g_model_empty a0 a1 a2 a3 a4 a5 a6 a7 a8 a9 a10 a11 a12 a13 a14 a15 a16 a17 a18 a19 a20 a21 a22 a23).run Q) (k : ∀ r, Q r → R (.bool (r)) ([])) : ACalls Try.prog tab 66 [.agg [.int .i64 (a0), .int .i64 (a1), .int .i64 (a2), .int .i64 (a3), .int .i64 (a4), .int .i64 (a5), .int .i64 (a6), .int .i64 (a7), .int .i64 (a8), .int .i64 (a9), .int .i64 (a10), .int .i64 (a11), .sl (a12) 74 (a13), .sl (a14) 21 (a15), .int .i64 (a16), .int .i64 (a17), .int .i64 (a18), .int .i64 (a19), .int .i64 (a20), .int .i64 (a21), .int .i64 (a22), .int .i64 (a23)]] [] R := by
  refine ACalls.out (fun r => .bool (r)) (fun r => []) (Q := Q) (ACalls.introX (mv := mv) tab_ok mixed_ (fn := Try.f66) (by kernel_rfl) rfl (by kernel_rfl) (by kernel_rfl) (leB rfl) ?_) (fun v => by first | exact ⟨rfl, leB rfl⟩ | (cases v <;> exact ⟨rfl, leB rfl⟩)) k
  conv => whnf
  refine ⟨_, Weak.a ?_, ?_, h⟩; (conv => whnf); exact ⟨rfl, rfl, rfl, rfl, rfl⟩; exact rfl
theorem c_window_within {a0 : Int} {a1 : Int} {a2 : Int} {Q : Bool → Prop} {R : AV → List AB → Prop} (h : (g_window_within a0 a1 a2).run Q) (k : ∀ r, Q r → R (.bool (r)) ([])) : ACalls Try.prog tab 64 [.int .i64 (a0), .int .i64 (a1), .int .i64 (a2)] [] R := by
  refine ACalls.out (fun r => .bool (r)) (fun r => []) (Q := Q) (ACalls.introX (mv := mv) tab_ok mixed_ (fn := Try.f64) (by kernel_rfl) rfl (by kernel_rfl) (by kernel_rfl) (leB rfl) ?_) (fun v => by first | exact ⟨rfl, leB rfl⟩ | (cases v <;> exact ⟨rfl, leB rfl⟩)) k
  conv => whnf
  refine ⟨_, Weak.a ?_, ?_, h⟩; (conv => whnf); exact ⟨rfl, rfl, rfl, rfl, rfl⟩; exact rfl
theorem c_window_side {a0 : Int} {a1 : Int} {a2 : Int} {a3 : Int} {Q : Bool → Prop} {R : AV → List AB → Prop} (h : (g_window_side a0 a1 a2 a3).run Q) (k : ∀ r, Q r → R (.bool (r)) ([])) : ACalls Try.prog tab 80 [.int .i64 (a0), .int .i64 (a1), .int .i64 (a2), .int .i64 (a3)] [] R := by
  refine ACalls.out (fun r => .bool (r)) (fun r => []) (Q := Q) (ACalls.introX (mv := mv) tab_ok mixed_ (fn := Try.f80) (by kernel_rfl) rfl (by kernel_rfl) (by kernel_rfl) (leB rfl) ?_) (fun v => by first | exact ⟨rfl, leB rfl⟩ | (cases v <;> exact ⟨rfl, leB rfl⟩)) k
  conv => whnf
  refine ASeq.joinW tab_ok mixed_ (fun v5 => ⟨[(8, .bool (v5))], [], 0, [], []⟩) h (fun Q h => ?_) (fun v5 h => ?_)
  · conv => whnf
    refine ACalls.inn (c_window_within (W.bindE h) (fun v6 h => ?_)) ⟨rfl, rfl⟩
    conv => whnf
    refine XSplit.mk (fun e => ?_) (fun e => ?_)
    · replace h := XSplit.t h e
      conv => whnf
      refine ACalls.inn (c_window_within (W.bindE h) (fun v7 h => ?_)) ⟨rfl, rfl⟩
      conv => whnf
      refine XSplit.mk (fun e => ?_) (fun e => ?_)
      · replace h := XSplit.t h e
        conv => whnf
        refine ACalls.inn (c_window_within (W.bindE h) (fun v8 h => ?_)) ⟨rfl, rfl⟩
        conv => whnf
        refine XSplit.mk (fun e => ?_) (fun e => ?_)
        · replace h := XSplit.t h e
          conv => whnf
          refine ACalls.inn (c_window_within (W.bindE h) (fun v9 h => ?_)) ⟨rfl, rfl⟩
          conv => whnf
          refine ⟨_, Weak.a ?_, h⟩; (conv => whnf); exact ⟨rfl, rfl, rfl, rfl, rfl⟩
        · replace h := XSplit.f h e
          conv => whnf
          refine ⟨_, Weak.a ?_, h⟩; (conv => whnf); exact ⟨rfl, rfl, rfl, rfl, rfl⟩
      · replace h := XSplit.f h e
        conv => whnf
        refine ⟨_, Weak.a ?_, h⟩; (conv => whnf); exact ⟨rfl, rfl, rfl, rfl, rfl⟩
    · replace h := XSplit.f h e
      conv => whnf
      refine ⟨_, Weak.a ?_, h⟩; (conv => whnf); exact ⟨rfl, rfl, rfl, rfl, rfl⟩
  · conv => whnf
    refine ⟨_, Weak.a ?_, ?_, h⟩; (conv => whnf); exact ⟨rfl, rfl, rfl, rfl, rfl⟩; exact rfl
theorem c_window_Valid {a0 : Int} {a1 : Int} {a2 : Int} {a3 : Int} {a4 : Int} {a5 : Int} {a6 : Int} {a7 : Int} {Q : Bool → Prop} {R : AV → List AB → Prop} (h : (g_window_Valid a0 a1 a2 a3 a4 a5 a6 a7).run Q) (k : ∀ r, Q r → R (.bool (r)) ([])) : ACalls Try.prog tab 76 [.agg [.int .i64 (a0), .int .i64 (a1), .int .i64 (a2), .int .i64 (a3), .int .i64 (a4), .int .i64 (a5), .int .i64 (a6), .int .i64 (a7)]] [] R := by
  refine ACalls.out (fun r => .bool (r)) (fun r => []) (Q := Q) (ACalls.introX (mv := mv) tab_ok mixed_ (fn := Try.f76) (by kernel_rfl) rfl (by kernel_rfl) (by kernel_rfl) (leB rfl) ?_) (fun v => by first | exact ⟨rfl, leB rfl⟩ | (cases v <;> exact ⟨rfl, leB rfl⟩)) k
  conv => whnf
  refine ASeq.joinW tab_ok mixed_ (fun v3 => ⟨[(2, .bool (v3))], [], 0, [], []⟩) h (fun Q h => ?_) (fun v3 h => ?_)
  · conv => whnf
    refine ACalls.inn (c_window_side (W.bindE h) (fun v4 h => ?_)) ⟨rfl, rfl⟩
    conv => whnf
    refine XSplit.mk (fun e => ?_) (fun e => ?_)
    · replace h := XSplit.t h e
      conv => whnf
      refine ACalls.inn (c_window_side (W.bindE h) (fun v5 h => ?_)) ⟨rfl, rfl⟩
      conv => whnf
      refine ⟨_, Weak.a ?_, h⟩; (conv => whnf); exact ⟨rfl, rfl, rfl, rfl, rfl⟩
    · replace h := XSplit.f h e
      conv => whnf
      refine ⟨_, Weak.a ?_, h⟩; (conv => whnf); exact ⟨rfl, rfl, rfl, rfl, rfl⟩
  · conv => whnf
    refine ⟨_, Weak.a ?_, ?_, h⟩; (conv => whnf); exact ⟨rfl, rfl, rfl, rfl, rfl⟩; exact rfl
theorem c_window_Out {a0 : Int} {a1 : Int} {a2 : Int} {a3 : Int} {a4 : Int} {a5 : Int} {a6 : Int} {a7 : Int} {a8 : Int} {a9 : Int} {a10 : Int} {Q : Int × Int × Int → Prop} {R : AV → List AB → Prop} (h : (g_window_Out a0 a1 a2 a3 a4 a5 a6 a7 a8 a9 a10).run Q) (k : ∀ r, Q r → R (.tup [.int .i64 (r.fst), .int .i64 (r.snd.fst), .int .i64 (r.snd.snd)]) ([])) : ACalls Try.prog tab 60 [.agg [.int .i64 (a0), .int .i64 (a1), .int .i64 (a2)], .agg [.int .i64 (a3), .int .i64 (a4), .int .i64 (a5), .int .i64 (a6), .int .i64 (a7), .int .i64 (a8), .int .i64 (a9), .int .i64 (a10)]] [] R := by
  refine ACalls.out (fun r => .tup [.int .i64 (r.fst), .int .i64 (r.snd.fst), .int .i64 (r.snd.snd)]) (fun r => []) (Q := Q) (ACalls.introX (mv := mv) tab_ok mixed_ (fn := Try.f60) (by kernel_rfl) rfl (by kernel_rfl) (by kernel_rfl) (leB rfl) ?_) (fun v => by first | exact ⟨rfl, leB rfl⟩ | (cases v <;> exact ⟨rfl, leB rfl⟩)) k
  conv => whnf
  refine ASeq.go tab_ok mixed_ ?_
  conv => whnf
  refine ACalls.inn (c_shape_Elems (W.bindE h) (fun v2 h => ?_)) ⟨rfl, rfl⟩
  conv => whnf
  refine XSplit.mk (fun e => ?_) (fun e => ?_)
  · replace h := XSplit.t h e
    conv => whnf
    refine ⟨_, Weak.a ?_, ?_, h⟩; (conv => whnf); exact ⟨rfl, rfl, rfl, rfl, rfl⟩; exact rfl
  · replace h := XSplit.f h e
    conv => whnf
    refine ASeq.go tab_ok mixed_ ?_
    conv => whnf
    refine ACalls.inn (c_window_Valid (W.bindE h) (fun v3 h => ?_)) ⟨rfl, rfl⟩
    conv => whnf
    refine XSplit.mk (fun e => ?_) (fun e => ?_)
    · replace h := XSplit.t h e
      conv => whnf
      refine ⟨_, Weak.a ?_, ?_, h⟩; (conv => whnf); exact ⟨rfl, rfl, rfl, rfl, rfl⟩; exact rfl
    · replace h := XSplit.f h e
      conv => whnf
      refine XDraw.q [0, 1, 2, 3, 4, 5, 6, 7, 8, 9, 10, 11, 12, 13, 14, 15, 16, 17, 18, 19, 20, 21, 22, 23] (by decide +kernel) ?_
      conv => whnf
      refine ASeq.go tab_ok mixed_ ?_
      conv => whnf
      refine XSplit.mk (fun e => ?_) (fun e => ?_)
      · replace h := XSplit.t h e
        conv => whnf
        refine ⟨_, Weak.a ?_, ?_, h⟩; (conv => whnf); exact ⟨rfl, rfl, rfl, rfl, rfl⟩; exact rfl
      · replace h := XSplit.f h e
        conv => whnf
        refine XDraw.q [0, 1, 2, 3, 4, 5, 6, 7, 8, 9, 10, 11, 12] (by decide +kernel) ?_
        conv => whnf
        refine XNeed.mk (XNeed.c h) ?_; replace h := XNeed.x h
        conv => whnf
        refine XNeed.mk (XNeed.c h) ?_; replace h := XNeed.x h
        conv => whnf
        refine ⟨_, Weak.a ?_, ?_, h⟩; (conv => whnf); exact ⟨rfl, rfl, rfl, rfl, rfl⟩; exact rfl
theorem c_model_makes {a0 : Int} {a1 : Int} {a2 : Int} {a3 : Int} {a4 : Int} {a5 : Int} {a6 : Int} {a7 : Int} {a8 : Int} {a9 : Int} {a10 : Int} {a11 : Int} {a12 : Bool} {a13 : Rws} {a14 : Bool} {a15 : Rws} {a16 : Int} {a17 : Int} {a18 : Int} {a19 : Int} {a20 : Int} {a21 : Int} {a22 : Int} {a23 : Int} {a24 : Int} {a25 : Int} {a26 : Int} {Q : Int × Int × Int × Int × Int × Int → Prop} {R : AV → List AB → Prop} (h : (g_model_makes a0 a1 a2 a3 a4 a5 a6 a7 a8 a9 a10 a11 a12 a13 a14 a15 a16 a17 a18 a19 a20 a21 a22 a23 a24 a25 a26).run Q) (k : ∀ r, Q r → R (.tup [.agg [.int .i64 (r.fst), .int .i64 (r.snd.fst), .int .i64 (r.snd.snd.fst)], .int .i64 (r.snd.snd.snd.fst), .int .i64 (r.snd.snd.snd.snd.fst), .int .i64 (r.snd.snd.snd.snd.snd)]) ([])) : ACalls Try.prog tab 68 [.agg [.int .i64 (a0), .int .i64 (a1), .int .i64 (a2), .int .i64 (a3), .int .i64 (a4), .int .i64 (a5), .int .i64 (a6), .int .i64 (a7), .int .i64 (a8), .int .i64 (a9), .int .i64 (a10), .int .i64 (a11), .sl (a12) 74 (a13), .sl (a14) 21 (a15), .int .i64 (a16), .int .i64 (a17), .int .i64 (a18), .int .i64 (a19), .int .i64 (a20), .int .i64 (a21), .int .i64 (a22), .int .i64 (a23)], .agg [.int .i64 (a24), .int .i64 (a25), .int .i64 (a26)]] [] R := by
  refine ACalls.out (fun r => .tup [.agg [.int .i64 (r.fst), .int .i64 (r.snd.fst), .int .i64 (r.snd.snd.fst)], .int .i64 (r.snd.snd.snd.fst), .int .i64 (r.snd.snd.snd.snd.fst), .int .i64 (r.snd.snd.snd.snd.snd)]) (fun r => []) (Q := Q) (ACalls.introX (mv := mv) tab_ok mixed_ (fn := Try.f68) (by kernel_rfl) rfl (by kernel_rfl) (by kernel_rfl) (leB rfl) ?_) (fun v => by first | exact ⟨rfl, leB rfl⟩ | (cases v <;> exact ⟨rfl, leB rfl⟩)) k
  conv => whnf
  refine ACalls.inn (c_model_of (W.bindE h) (fun v5 h => ?_)) ⟨rfl, rfl⟩
  conv => whnf
  refine ASeq.joinE tab_ok mixed_ (fun v6 => ⟨[(2, .ptr 0 0), (3, .ptr 1 0), (4, .ptr 2 0), (5, .int .i64 (0)), (6, .int .i64 (0)), (7, .int .i64 (0)), (10, .ptr 3 0), (11, .int .i64 (v6.fst))], [(0, .box 45 [.int .i64 (a0), .int .i64 (a1), .int .i64 (a2), .int .i64 (a3), .int .i64 (a4), .int .i64 (a5), .int .i64 (a6), .int .i64 (a7), .int .i64 (a8), .int .i64 (a9), .int .i64 (a10), .int .i64 (a11), .sl (a12) 74 (a13), .sl (a14) 21 (a15), .int .i64 (a16), .int .i64 (a17), .int .i64 (a18), .int .i64 (a19), .int .i64 (a20), .int .i64 (a21), .int .i64 (a22), .int .i64 (a23)]), (1, .box 23 [.int .i64 (a24), .int .i64 (a25), .int .i64 (a26)]), (2, .box 23 [.int .i64 (0), .int .i64 (0), .int .i64 (0)]), (3, .box 23 [.int .i64 (v6.snd.fst), .int .i64 (v6.snd.snd), .int .i64 (a26)])], 4, [], []⟩) h (fun Q h => ?_) (fun v6 h => ?_)
  · conv => whnf
    refine XSplit.mk (fun e => ?_) (fun e => ?_)
    · replace h := XSplit.t h e
      conv => whnf
      refine ACalls.inn (c_window_Out (W.bindE h) (fun v7 h => ?_)) ⟨rfl, rfl⟩
      conv => whnf
      refine ASeq.go tab_ok mixed_ ?_
      conv => whnf
      refine XSplit.mk (fun e => ?_) (fun e => ?_)
      · replace h := XSplit.t h e
        conv => whnf
        refine ⟨_, Weak.a ?_, ?_, h⟩; (conv => whnf); exact ⟨rfl, rfl, rfl, rfl, rfl⟩; exact rfl
      · replace h := XSplit.f h e
        conv => whnf
        refine XDraw.d [0, 1, 2, 3, 4, 5, 6, 7, 8, 9, 10, 11, 12, 13] [[], [], [], [], [], [], [], [], [], [], [4], [], [4], []] (by decide +kernel) ?_
        conv => whnf
        refine ⟨_, Weak.a ?_, h⟩; (conv => whnf); exact ⟨rfl, rfl, rfl, rfl, rfl⟩
    · replace h := XSplit.f h e
      conv => whnf
      refine ⟨_, Weak.a ?_, h⟩; (conv => whnf); exact ⟨rfl, rfl, rfl, rfl, rfl⟩
  · conv => whnf
    refine ASeq.joinW tab_ok mixed_ (fun v8 => ⟨[(4, .ptr 0 0), (5, .int .i64 (0)), (6, .int .i64 (0)), (7, .int .i64 (0)), (10, .ptr 1 0), (11, .int .i64 (v8.fst)), (15, .int .i64 (v8.snd.fst))], [(0, .box 23 [.int .i64 (0), .int .i64 (0), .int .i64 (0)]), (1, .box 23 [.int .i64 (v8.snd.snd.fst), .int .i64 (v8.snd.snd.snd.fst), .int .i64 (v8.snd.snd.snd.snd)])], 2, [], []⟩) h (fun Q h => ?_) (fun v8 h => ?_)
    · conv => whnf
      refine XSplit.mk (fun e => ?_) (fun e => ?_)
      · replace h := XSplit.t h e
        conv => whnf
        refine XDraw.d [0, 1, 2, 3, 4, 5, 6, 7, 8, 9, 10, 11, 12] [[], [], [], [], [], [], [], [], [], [], [], [], [3]] (by decide +kernel) ?_
        conv => whnf
        refine ⟨_, Weak.a ?_, h⟩; (conv => whnf); exact ⟨rfl, rfl, rfl, rfl, rfl⟩
      · replace h := XSplit.f h e
        conv => whnf
        refine XSplit.mk (fun e => ?_) (fun e => ?_)
        · replace h := XSplit.t h e
          conv => whnf
          refine XDraw.d [0, 1, 2, 3, 4, 5] [[], [], [], [], [], [3]] (by decide +kernel) ?_
          conv => whnf
          refine ⟨_, Weak.a ?_, h⟩; (conv => whnf); exact ⟨rfl, rfl, rfl, rfl, rfl⟩
        · replace h := XSplit.f h e
          conv => whnf
          refine ASeq.joinW tab_ok mixed_ (fun v9 => ⟨[(4, .ptr 0 0), (5, .int .i64 (0)), (6, .int .i64 (0)), (7, .int .i64 (0)), (10, .ptr 1 0), (11, .int .i64 (v6.fst)), (15, .int .i64 (0)), (74, .bool (v9))], [(0, .box 23 [.int .i64 (0), .int .i64 (0), .int .i64 (0)]), (1, .box 23 [.int .i64 (v6.snd.fst), .int .i64 (v6.snd.snd), .int .i64 (a26)])], 2, [], []⟩) h (fun Q h => ?_) (fun v9 h => ?_)
          · conv => whnf
            refine XSplit.mk (fun e => ?_) (fun e => ?_)
            · replace h := XSplit.t h e
              conv => whnf
              refine ⟨_, Weak.a ?_, h⟩; (conv => whnf); exact ⟨rfl, rfl, rfl, rfl, rfl⟩
            · replace h := XSplit.f h e
              conv => whnf
              refine ⟨_, Weak.a ?_, h⟩; (conv => whnf); exact ⟨rfl, rfl, rfl, rfl, rfl⟩
          · conv => whnf
            refine XSplit.mk (fun e => ?_) (fun e => ?_)
            · replace h := XSplit.t h e
              conv => whnf
              refine ⟨_, Weak.a ?_, h⟩; (conv => whnf); exact ⟨rfl, rfl, rfl, rfl, rfl⟩
            · replace h := XSplit.f h e
              conv => whnf
              refine ⟨_, Weak.a ?_, h⟩; (conv => whnf); exact ⟨rfl, rfl, rfl, rfl, rfl⟩
    · conv => whnf
      refine XDraw.d [0, 1, 2, 3, 4, 5, 6, 7, 8, 9, 10, 11, 12, 13, 14, 15] [[], [], [], [], [], [], [], [], [], [], [], [], [0], [], [], []] (by decide +kernel) ?_
      conv => whnf
      refine ⟨_, Weak.a ?_, ?_, h⟩; (conv => whnf); exact ⟨rfl, rfl, rfl, rfl, rfl⟩; exact rfl
theorem c_fixq_Valid {a0 : Int} {a1 : Int} {Q : Bool → Prop} {R : AV → List AB → Prop} (h : (g_fixq_Valid a0 a1).run Q) (k : ∀ r, Q r → R (.bool (r)) ([])) : ACalls Try.prog tab 58 [.agg [.int .i64 (a0), .int .i64 (a1)]] [] R := by
  refine ACalls.out (fun r => .bool (r)) (fun r => []) (Q := Q) (ACalls.introX (mv := mv) tab_ok mixed_ (fn := Try.f58) (by kernel_rfl) rfl (by kernel_rfl) (by kernel_rfl) (leB rfl) ?_) (fun v => by first | exact ⟨rfl, leB rfl⟩ | (cases v <;> exact ⟨rfl, leB rfl⟩)) k
  conv => whnf
  refine ⟨_, Weak.a ?_, ?_, h⟩; (conv => whnf); exact ⟨rfl, rfl, rfl, rfl, rfl⟩; exact rfl
theorem c_model_op {a0 : Int} {a1 : Int} {a2 : Int} {a3 : Int} {a4 : Int} {a5 : Int} {a6 : Int} {a7 : Int} {a8 : Int} {a9 : Int} {a10 : Int} {a11 : Int} {a12 : Bool} {a13 : Rws} {a14 : Bool} {a15 : Rws} {a16 : Int} {a17 : Int} {a18 : Int} {a19 : Int} {a20 : Int} {a21 : Int} {a22 : Int} {a23 : Int} {a24 : Bool} {a25 : Rws} {Q : Int × Int × Int × Int × Int → Prop} {R : AV → List AB → Prop} (h : (g_model_op a0 a1 a2 a3 a4 a5 a6 a7 a8 a9 a10 a11 a12 a13 a14 a15 a16 a17 a18 a19 a20 a21 a22 a23 a24 a25).run Q) (k : ∀ r, Q r → R (.tup [.agg [.int .i64 (r.fst), .int .i64 (r.snd.fst), .int .i64 (r.snd.snd.fst)], .int .i64 (r.snd.snd.snd.fst), .int .i64 (r.snd.snd.snd.snd)]) ([])) : ACalls Try.prog tab 40 [.agg [.int .i64 (a0), .int .i64 (a1), .int .i64 (a2), .int .i64 (a3), .int .i64 (a4), .int .i64 (a5), .int .i64 (a6), .int .i64 (a7), .int .i64 (a8), .int .i64 (a9), .int .i64 (a10), .int .i64 (a11), .sl (a12) 74 (a13), .sl (a14) 21 (a15), .int .i64 (a16), .int .i64 (a17), .int .i64 (a18), .int .i64 (a19), .int .i64 (a20), .int .i64 (a21), .int .i64 (a22), .int .i64 (a23)], .sl (a24) 23 (a25)] [] R := by
  refine ACalls.out (fun r => .tup [.agg [.int .i64 (r.fst), .int .i64 (r.snd.fst), .int .i64 (r.snd.snd.fst)], .int .i64 (r.snd.snd.snd.fst), .int .i64 (r.snd.snd.snd.snd)]) (fun r => []) (Q := Q) (ACalls.introX (mv := mv) tab_ok mixed_ (fn := Try.f40) (by kernel_rfl) rfl (by kernel_rfl) (by kernel_rfl) (leB rfl) ?_) (fun v => by first | exact ⟨rfl, leB rfl⟩ | (cases v <;> exact ⟨rfl, leB rfl⟩)) k
  conv => whnf
  refine ACalls.inn (c_model_of (W.bindE h) (fun v11 h => ?_)) ⟨rfl, rfl⟩
  conv => whnf
  refine ASeq.go tab_ok mixed_ ?_
  conv => whnf
  refine XSplit.mk (fun e => ?_) (fun e => ?_)
  · replace h := XSplit.t h e
    conv => whnf
    refine ⟨_, Weak.a ?_, ?_, h⟩; (conv => whnf); exact ⟨rfl, rfl, rfl, rfl, rfl⟩; exact rfl
  · replace h := XSplit.f h e
    conv => whnf
    refine XSplit.mk (fun e => ?_) (fun e => ?_)
    · replace h := XSplit.t h e
      conv => whnf
      refine ⟨_, Weak.a ?_, ?_, h⟩; (conv => whnf); exact ⟨rfl, rfl, rfl, rfl, rfl⟩; exact rfl
    · replace h := XSplit.f h e
      conv => whnf
      refine ACalls.inn (c_model_bare (W.bindE h) (fun v12 h => ?_)) ⟨rfl, rfl⟩
      conv => whnf
      refine ACalls.inn (c_model_empty (W.bindE h) (fun v13 h => ?_)) ⟨rfl, rfl⟩
      conv => whnf
      refine XSplit.mk (fun e => ?_) (fun e => ?_)
      · replace h := XSplit.t h e
        conv => whnf
        refine ⟨_, Weak.a ?_, ?_, h⟩; (conv => whnf); exact ⟨rfl, rfl, rfl, rfl, rfl⟩; exact rfl
      · replace h := XSplit.f h e
        conv => whnf
        refine XSplit.mk (fun e => ?_) (fun e => ?_)
        · replace h := XSplit.t h e
          conv => whnf
          refine ⟨_, Weak.a ?_, ?_, h⟩; (conv => whnf); exact ⟨rfl, rfl, rfl, rfl, rfl⟩; exact rfl
        · replace h := XSplit.f h e
          conv => whnf
          refine XNeed.mk (XNeed.c h) ?_; replace h := XNeed.x h
          conv => whnf
          refine ACalls.inn (c_model_makes (W.bindE h) (fun v14 h => ?_)) ⟨rfl, rfl⟩
          conv => whnf
          refine ASeq.go tab_ok mixed_ ?_
          conv => whnf
          refine XSplit.mk (fun e => ?_) (fun e => ?_)
          · replace h := XSplit.t h e
            conv => whnf
            refine ⟨_, Weak.a ?_, ?_, h⟩; (conv => whnf); exact ⟨rfl, rfl, rfl, rfl, rfl⟩; exact rfl
          · replace h := XSplit.f h e
            conv => whnf
            refine ASeq.go tab_ok mixed_ ?_
            conv => whnf
            refine ACalls.inn (c_shape_Elems (W.bindE h) (fun v15 h => ?_)) ⟨rfl, rfl⟩
            conv => whnf
            refine XDraw.q [0, 1, 2, 3, 4, 5, 6, 7, 8, 9, 10, 11, 12, 13, 14] (by decide +kernel) ?_
            conv => whnf
            refine XNeed.mk (XNeed.c h) ?_; replace h := XNeed.x h
            conv => whnf
            refine XSplit.mk (fun e => ?_) (fun e => ?_)
            · replace h := XSplit.t h e
              conv => whnf
              refine ⟨_, Weak.a ?_, ?_, h⟩; (conv => whnf); exact ⟨rfl, rfl, rfl, rfl, rfl⟩; exact rfl
            · replace h := XSplit.f h e
              conv => whnf
              refine ASeq.joinW tab_ok mixed_ (fun v16 => ⟨[(2, .ptr 0 0), (4, .ptr 1 0), (5, .int .i64 (0)), (6, .int .i64 (0)), (7, .ptr 2 0), (8, .ptr 3 0), (11, .ptr 4 0), (12, .int .i64 (v14.snd.snd.snd.fst)), (13, .int .i64 (v14.snd.snd.snd.snd.fst)), (17, .int .i64 (v16))], [(0, .box 45 [.int .i64 (a0), .int .i64 (a1), .int .i64 (a2), .int .i64 (a3), .int .i64 (a4), .int .i64 (a5), .int .i64 (a6), .int .i64 (a7), .int .i64 (a8), .int .i64 (a9), .int .i64 (a10), .int .i64 (a11), .sl (a12) 74 (a13), .sl (a14) 21 (a15), .int .i64 (a16), .int .i64 (a17), .int .i64 (a18), .int .i64 (a19), .int .i64 (a20), .int .i64 (a21), .int .i64 (a22), .int .i64 (a23)]), (1, .box 23 [.int .i64 (0), .int .i64 (0), .int .i64 (0)]), (2, .box 23 [.int .i64 (0), .int .i64 (0), .int .i64 (0)]), (3, .box 127 [.bool (v11.fst), .bool (v11.snd.fst), .bool (v11.snd.snd.fst), .bool (v11.snd.snd.snd.fst), .bool (v11.snd.snd.snd.snd.fst), .bool (v11.snd.snd.snd.snd.snd.fst), .bool (v11.snd.snd.snd.snd.snd.snd.fst), .bool (v11.snd.snd.snd.snd.snd.snd.snd.fst)]), (4, .box 23 [.int .i64 (v14.fst), .int .i64 (v14.snd.fst), .int .i64 (v14.snd.snd.fst)])], 5, [], []⟩) h (fun Q h => ?_) (fun v16 h => ?_)
              · conv => whnf
                refine XSplit.mk (fun e => ?_) (fun e => ?_)
                · replace h := XSplit.t h e
                  conv => whnf
                  refine ⟨_, Weak.a ?_, h⟩; (conv => whnf); exact ⟨rfl, rfl, rfl, rfl, rfl⟩
                · replace h := XSplit.f h e
                  conv => whnf
                  refine ⟨_, Weak.a ?_, h⟩; (conv => whnf); exact ⟨rfl, rfl, rfl, rfl, rfl⟩
              · conv => whnf
                refine ASeq.go tab_ok mixed_ ?_
                conv => whnf
                refine XSplit.mk (fun e => ?_) (fun e => ?_)
                · replace h := XSplit.t h e
                  conv => whnf
                  refine ⟨_, Weak.a ?_, ?_, h⟩; (conv => whnf); exact ⟨rfl, rfl, rfl, rfl, rfl⟩; exact rfl
                · replace h := XSplit.f h e
                  conv => whnf
                  refine XSplit.mk (fun e => ?_) (fun e => ?_)
                  · replace h := XSplit.t h e
                    conv => whnf
                    refine ⟨_, Weak.a ?_, ?_, h⟩; (conv => whnf); exact ⟨rfl, rfl, rfl, rfl, rfl⟩; exact rfl
                  · replace h := XSplit.f h e
                    conv => whnf
                    refine ASeq.joinW tab_ok mixed_ (fun v17 => ⟨[(2, .ptr 0 0), (4, .ptr 1 0), (5, .int .i64 (0)), (6, .int .i64 (0)), (7, .ptr 2 0), (11, .ptr 3 0), (13, .int .i64 (v14.snd.snd.snd.snd.fst)), (140, .bool (v17))], [(0, .box 45 [.int .i64 (a0), .int .i64 (a1), .int .i64 (a2), .int .i64 (a3), .int .i64 (a4), .int .i64 (a5), .int .i64 (a6), .int .i64 (a7), .int .i64 (a8), .int .i64 (a9), .int .i64 (a10), .int .i64 (a11), .sl (a12) 74 (a13), .sl (a14) 21 (a15), .int .i64 (a16), .int .i64 (a17), .int .i64 (a18), .int .i64 (a19), .int .i64 (a20), .int .i64 (a21), .int .i64 (a22), .int .i64 (a23)]), (1, .box 23 [.int .i64 (0), .int .i64 (0), .int .i64 (0)]), (2, .box 23 [.int .i64 (0), .int .i64 (0), .int .i64 (0)]), (3, .box 23 [.int .i64 (v14.fst), .int .i64 (v14.snd.fst), .int .i64 (v14.snd.snd.fst)])], 4, [], []⟩) h (fun Q h => ?_) (fun v17 h => ?_)
                    · conv => whnf
                      refine XSplit.mk (fun e => ?_) (fun e => ?_)
                      · replace h := XSplit.t h e
                        conv => whnf
                        refine ACalls.inn (c_fixq_Valid (W.bindE h) (fun v18 h => ?_)) ⟨rfl, rfl⟩
                        conv => whnf
                        refine XSplit.mk (fun e => ?_) (fun e => ?_)
                        · replace h := XSplit.t h e
                          conv => whnf
                          refine ⟨_, Weak.a ?_, h⟩; (conv => whnf); exact ⟨rfl, rfl, rfl, rfl, rfl⟩
                        · replace h := XSplit.f h e
                          conv => whnf
                          refine XSplit.mk (fun e => ?_) (fun e => ?_)
                          · replace h := XSplit.t h e
                            conv => whnf
                            refine ACalls.inn (c_fixq_Valid (W.bindE h) (fun v19 h => ?_)) ⟨rfl, rfl⟩
                            conv => whnf
                            refine ⟨_, Weak.a ?_, h⟩; (conv => whnf); exact ⟨rfl, rfl, rfl, rfl, rfl⟩
                          · replace h := XSplit.f h e
                            conv => whnf
                            refine ⟨_, Weak.a ?_, h⟩; (conv => whnf); exact ⟨rfl, rfl, rfl, rfl, rfl⟩
                      · replace h := XSplit.f h e
                        conv => whnf
                        refine XSplit.mk (fun e => ?_) (fun e => ?_)
                        · replace h := XSplit.t h e
                          conv => whnf
                          refine ACalls.inn (c_fixq_Valid (W.bindE h) (fun v20 h => ?_)) ⟨rfl, rfl⟩
                          conv => whnf
                          refine ⟨_, Weak.a ?_, h⟩; (conv => whnf); exact ⟨rfl, rfl, rfl, rfl, rfl⟩
                        · replace h := XSplit.f h e
                          conv => whnf
                          refine ⟨_, Weak.a ?_, h⟩; (conv => whnf); exact ⟨rfl, rfl, rfl, rfl, rfl⟩
                    · conv => whnf
                      refine XSplit.mk (fun e => ?_) (fun e => ?_)
                      · replace h := XSplit.t h e
                        conv => whnf
                        refine ⟨_, Weak.a ?_, ?_, h⟩; (conv => whnf); exact ⟨rfl, rfl, rfl, rfl, rfl⟩; exact rfl
                      · replace h := XSplit.f h e
                        conv => whnf
                        refine ACalls.inn (c_model_byte8 (W.bindE h) (fun v21 h => ?_)) ⟨rfl, rfl⟩
                        conv => whnf
                        refine XSplit.mk (fun e => ?_) (fun e => ?_)
                        · replace h := XSplit.t h e
                          conv => whnf
                          refine ⟨_, Weak.a ?_, ?_, h⟩; (conv => whnf); exact ⟨rfl, rfl, rfl, rfl, rfl⟩; exact rfl
                        · replace h := XSplit.f h e
                          conv => whnf
                          refine ⟨_, Weak.a ?_, ?_, h⟩; (conv => whnf); exact ⟨rfl, rfl, rfl, rfl, rfl⟩; exact rfl
theorem c_model_whole {a0 : Int} {a1 : Int} {a2 : Int} {a3 : Int} {a4 : Int} {a5 : Bool} {a6 : Rws} {a7 : Int} {Q : Int × Int × Int × Int × Bool × Rws → Prop} {R : AV → List AB → Prop} (h : (g_model_whole a0 a1 a2 a3 a4 a5 a6 a7).run Q) (k : ∀ r, Q r → R (.tup [.own 0, .int .i64 (r.fst), .agg [.int .i64 (r.snd.fst), .int .i64 (r.snd.snd.fst), .int .i64 (r.snd.snd.snd.fst)]]) ([.arr true 23 (r.snd.snd.snd.snd.fst) (r.snd.snd.snd.snd.snd)])) : ACalls Try.prog tab 25 [.agg [.int .i64 (a0), .int .i64 (a1), .int .i64 (a2), .int .i64 (a3), .int .i64 (a4), .sl (a5) 45 (a6), .int .i64 (a7)]] [] R := by
  refine ACalls.out (fun r => .tup [.own 0, .int .i64 (r.fst), .agg [.int .i64 (r.snd.fst), .int .i64 (r.snd.snd.fst), .int .i64 (r.snd.snd.snd.fst)]]) (fun r => [.arr true 23 (r.snd.snd.snd.snd.fst) (r.snd.snd.snd.snd.snd)]) (Q := Q) (ACalls.introX (mv := mv) tab_ok mixed_ (fn := Try.f25) (by kernel_rfl) rfl (by kernel_rfl) (by kernel_rfl) (leB rfl) ?_) (fun v => by first | exact ⟨rfl, leB rfl⟩ | (cases v <;> exact ⟨rfl, leB rfl⟩)) k
  conv => whnf
  refine ACalls.inn (c_shape_Elems (W.bindE h) (fun v7 h => ?_)) ⟨rfl, rfl⟩
  conv => whnf
  refine ASeq.go tab_ok mixed_ ?_
  conv => whnf
  refine XSplit.mk (fun e => ?_) (fun e => ?_)
  · replace h := XSplit.t h e
    conv => whnf
    refine ⟨_, Weak.a ?_, ?_, h⟩; (conv => whnf); exact ⟨rfl, rfl, rfl, rfl, rfl⟩; exact rfl
  · replace h := XSplit.f h e
    conv => whnf
    refine ACalls.inn (c_model_byte8 (W.bindE h) (fun v8 h => ?_)) ⟨rfl, rfl⟩
    conv => whnf
    refine XSplit.mk (fun e => ?_) (fun e => ?_)
    · replace h := XSplit.t h e
      conv => whnf
      refine ⟨_, Weak.a ?_, ?_, h⟩; (conv => whnf); exact ⟨rfl, rfl, rfl, rfl, rfl⟩; exact rfl
    · replace h := XSplit.f h e
      conv => whnf
      refine XSplit.mk (fun e => ?_) (fun e => ?_)
      · replace h := XSplit.t h e
        conv => whnf
        refine ⟨_, Weak.a ?_, ?_, h⟩; (conv => whnf); exact ⟨rfl, rfl, rfl, rfl, rfl⟩; exact rfl
      · replace h := XSplit.f h e
        conv => whnf
        refine XSplit.mk (fun e => ?_) (fun e => ?_)
        · replace h := XSplit.t h e
          conv => whnf
          refine ⟨_, Weak.a ?_, ?_, h⟩; (conv => whnf); exact ⟨rfl, rfl, rfl, rfl, rfl⟩; exact rfl
        · replace h := XSplit.f h e
          conv => whnf
          refine ASeq.go tab_ok mixed_ ?_
          conv => whnf
          refine ALoop.ofW tab_ok mixed_ (fun v9 => ⟨[(2, .nils), (3, .int .i64 (0)), (4, .ptr 0 0), (7, .own 1), (8, .int .i64 (v9.fst)), (64, .sl (a5) 45 (a6)), (65, .int .i64 ((↑(List.length a6) : Int))), (66, .int .i64 (v9.snd.fst))], [(0, .box 48 [.int .i64 (0), .int .i64 (0), .int .i64 (0)]), (1, .arr true 23 (false) (v9.snd.snd))], 2, [], []⟩) (sx (fun v10 => (.ret, ⟨[(2, .nils), (3, .int .i64 (0)), (4, .ptr 0 0)], [(0, .box 48 [.int .i64 (v10.fst), .int .i64 (v10.snd), .int .i64 (0)])], 1, [], []⟩)) (fun v11 => (.exit 1, ⟨[(2, .nils), (3, .int .i64 (0)), (4, .ptr 0 0), (7, .own 1), (8, .int .i64 (v11.fst))], [(0, .box 48 [.int .i64 (0), .int .i64 (0), .int .i64 (0)]), (1, .arr true 23 (false) (v11.snd))], 2, [], []⟩))) (W.bindE h) (Weak.a ?_) (fun v9 J_ Q h => ?_) (fun v h => ?_)
          · conv => whnf
            exact ⟨rfl, rfl, rfl, rfl, rfl⟩
          · conv => whnf
            refine ASeq.go tab_ok mixed_ ?_
            conv => whnf
            refine XSplit.mk (fun e => ?_) (fun e => ?_)
            · replace h := XSplit.t h e
              conv => whnf
              refine ASeq.go tab_ok mixed_ ?_
              conv => whnf
              refine XNeed.mk (XNeed.c h) ?_; replace h := XNeed.x h
              conv => whnf
              refine ACalls.inn (c_model_op (W.bindE h) (fun v12 h => ?_)) ⟨rfl, rfl⟩
              conv => whnf
              refine ASeq.joinW tab_ok mixed_ (fun v13 => ⟨[(2, .nils), (3, .int .i64 (0)), (4, .ptr 0 0), (7, .own 1), (8, .int .i64 (IntKind.i64.wrap (v9.fst + v12.snd.snd.snd.fst))), (9, .int .i64 (v9.snd.fst)), (10, .ptr 2 0), (11, .ptr 3 0), (12, .int .i64 (v12.snd.snd.snd.fst)), (13, .int .i64 (v13)), (64, .sl (a5) 45 (a6)), (65, .int .i64 ((↑(List.length a6) : Int))), (66, .int .i64 (v9.snd.fst)), (67, .bool (decide (v9.snd.fst < (↑(List.length a6) : Int)))), (68, .int .i64 (v9.snd.fst)), (69, .rel 45 (a6) (v9.snd.fst.toNat) 0), (70, .agg [.int .i64 (ri a6 v9.snd.fst.toNat 0), .int .i64 (ri a6 v9.snd.fst.toNat 1), .int .i64 (ri a6 v9.snd.fst.toNat 2), .int .i64 (ri a6 v9.snd.fst.toNat 3), .int .i64 (ri a6 v9.snd.fst.toNat 4), .int .i64 (ri a6 v9.snd.fst.toNat 5), .int .i64 (ri a6 v9.snd.fst.toNat 6), .int .i64 (ri a6 v9.snd.fst.toNat 7), .int .i64 (ri a6 v9.snd.fst.toNat 8), .int .i64 (ri a6 v9.snd.fst.toNat 9), .int .i64 (ri a6 v9.snd.fst.toNat 10), .int .i64 (ri a6 v9.snd.fst.toNat 11), .sl (rn a6 v9.snd.fst.toNat 12) 74 (rr a6 v9.snd.fst.toNat 12), .sl (rn a6 v9.snd.fst.toNat 13) 21 (rr a6 v9.snd.fst.toNat 13), .int .i64 (ri a6 v9.snd.fst.toNat 14), .int .i64 (ri a6 v9.snd.fst.toNat 15), .int .i64 (ri a6 v9.snd.fst.toNat 16), .int .i64 (ri a6 v9.snd.fst.toNat 17), .int .i64 (ri a6 v9.snd.fst.toNat 18), .int .i64 (ri a6 v9.snd.fst.toNat 19), .int .i64 (ri a6 v9.snd.fst.toNat 20), .int .i64 (ri a6 v9.snd.fst.toNat 21)]), (71, .tup [.agg [.int .i64 (v12.fst), .int .i64 (v12.snd.fst), .int .i64 (v12.snd.snd.fst)], .int .i64 (v12.snd.snd.snd.fst), .int .i64 (v12.snd.snd.snd.snd)]), (72, .agg [.int .i64 (ri a6 v9.snd.fst.toNat 0), .int .i64 (ri a6 v9.snd.fst.toNat 1), .int .i64 (ri a6 v9.snd.fst.toNat 2), .int .i64 (ri a6 v9.snd.fst.toNat 3), .int .i64 (ri a6 v9.snd.fst.toNat 4), .int .i64 (ri a6 v9.snd.fst.toNat 5), .int .i64 (ri a6 v9.snd.fst.toNat 6), .int .i64 (ri a6 v9.snd.fst.toNat 7), .int .i64 (ri a6 v9.snd.fst.toNat 8), .int .i64 (ri a6 v9.snd.fst.toNat 9), .int .i64 (ri a6 v9.snd.fst.toNat 10), .int .i64 (ri a6 v9.snd.fst.toNat 11), .sl (rn a6 v9.snd.fst.toNat 12) 74 (rr a6 v9.snd.fst.toNat 12), .sl (rn a6 v9.snd.fst.toNat 13) 21 (rr a6 v9.snd.fst.toNat 13), .int .i64 (ri a6 v9.snd.fst.toNat 14), .int .i64 (ri a6 v9.snd.fst.toNat 15), .int .i64 (ri a6 v9.snd.fst.toNat 16), .int .i64 (ri a6 v9.snd.fst.toNat 17), .int .i64 (ri a6 v9.snd.fst.toNat 18), .int .i64 (ri a6 v9.snd.fst.toNat 19), .int .i64 (ri a6 v9.snd.fst.toNat 20), .int .i64 (ri a6 v9.snd.fst.toNat 21)]), (73, .own 1), (74, .tup [.agg [.int .i64 (v12.fst), .int .i64 (v12.snd.fst), .int .i64 (v12.snd.snd.fst)], .int .i64 (v12.snd.snd.snd.fst), .int .i64 (v12.snd.snd.snd.snd)]), (75, .agg [.int .i64 (v12.fst), .int .i64 (v12.snd.fst), .int .i64 (v12.snd.snd.fst)]), (76, .int .i64 (v12.snd.snd.snd.fst)), (77, .int .i64 (v12.snd.snd.snd.snd)), (78, .int .i64 (v9.fst)), (79, .int .i64 (v12.snd.snd.snd.fst)), (80, .int .i64 (IntKind.i64.wrap (v9.fst + v12.snd.snd.snd.fst))), (81, .int .i64 (v12.snd.snd.snd.snd)), (82, .bool (v12.snd.snd.snd.snd == 0)), (83, .bool (v12.snd.snd.snd.snd == 0)), (86, .bool (v12.snd.snd.snd.snd == 0 && decide (131072 < IntKind.i64.wrap (v9.fst + v12.snd.snd.snd.fst))))], [(0, .box 48 [.int .i64 (0), .int .i64 (0), .int .i64 (0)]), (1, .arr true 23 (false) (v9.snd.snd)), (2, .box 45 [.int .i64 (ri a6 v9.snd.fst.toNat 0), .int .i64 (ri a6 v9.snd.fst.toNat 1), .int .i64 (ri a6 v9.snd.fst.toNat 2), .int .i64 (ri a6 v9.snd.fst.toNat 3), .int .i64 (ri a6 v9.snd.fst.toNat 4), .int .i64 (ri a6 v9.snd.fst.toNat 5), .int .i64 (ri a6 v9.snd.fst.toNat 6), .int .i64 (ri a6 v9.snd.fst.toNat 7), .int .i64 (ri a6 v9.snd.fst.toNat 8), .int .i64 (ri a6 v9.snd.fst.toNat 9), .int .i64 (ri a6 v9.snd.fst.toNat 10), .int .i64 (ri a6 v9.snd.fst.toNat 11), .sl (rn a6 v9.snd.fst.toNat 12) 74 (rr a6 v9.snd.fst.toNat 12), .sl (rn a6 v9.snd.fst.toNat 13) 21 (rr a6 v9.snd.fst.toNat 13), .int .i64 (ri a6 v9.snd.fst.toNat 14), .int .i64 (ri a6 v9.snd.fst.toNat 15), .int .i64 (ri a6 v9.snd.fst.toNat 16), .int .i64 (ri a6 v9.snd.fst.toNat 17), .int .i64 (ri a6 v9.snd.fst.toNat 18), .int .i64 (ri a6 v9.snd.fst.toNat 19), .int .i64 (ri a6 v9.snd.fst.toNat 20), .int .i64 (ri a6 v9.snd.fst.toNat 21)]), (3, .box 23 [.int .i64 (v12.fst), .int .i64 (v12.snd.fst), .int .i64 (v12.snd.snd.fst)])], 4, [], []⟩) h (fun Q h => ?_) (fun v13 h => ?_)
              · conv => whnf
                refine XSplit.mk (fun e => ?_) (fun e => ?_)
                · replace h := XSplit.t h e
                  conv => whnf
                  refine ⟨_, Weak.a ?_, h⟩; (conv => whnf); exact ⟨rfl, rfl, rfl, rfl, rfl⟩
                · replace h := XSplit.f h e
                  conv => whnf
                  refine ⟨_, Weak.a ?_, h⟩; (conv => whnf); exact ⟨rfl, rfl, rfl, rfl, rfl⟩
              · conv => whnf
                refine ASeq.go tab_ok mixed_ ?_
                conv => whnf
                refine XSplit.mk (fun e => ?_) (fun e => ?_)
                · replace h := XSplit.t h e
                  conv => whnf
                  refine ⟨_, ?_, Weak.a ?_, h⟩; exact rfl; (conv => whnf); exact ⟨rfl, rfl, rfl, rfl, rfl⟩
                · replace h := XSplit.f h e
                  conv => whnf
                  refine XNeed.mk (XNeed.c h) ?_; replace h := XNeed.x h
                  conv => whnf
                  refine ⟨_, Weak.a ?_, h⟩; (conv => whnf); exact ⟨rfl, rfl, rfl, rfl, rfl⟩
            · replace h := XSplit.f h e
              conv => whnf
              refine ⟨_, ?_, Weak.a ?_, h⟩; exact rfl; (conv => whnf); exact ⟨rfl, rfl, rfl, rfl, rfl⟩
          · rcases v with v10 | v11
            · conv => whnf
              refine ⟨_, Weak.a ?_, ?_, h⟩; (conv => whnf); exact ⟨rfl, rfl, rfl, rfl, rfl⟩; exact rfl
            · conv => whnf
              refine ⟨_, Weak.a ?_, ?_, h⟩; (conv => whnf); exact ⟨rfl, rfl, rfl, rfl, rfl⟩; exact rfl
theorem c_model_Check {a0 : Int} {a1 : Int} {a2 : Int} {a3 : Int} {a4 : Int} {a5 : Bool} {a6 : Rws} {a7 : Int} {Q : Int × Int × Int → Prop} {R : AV → List AB → Prop} (h : (g_model_Check a0 a1 a2 a3 a4 a5 a6 a7).run Q) (k : ∀ r, Q r → R (.agg [.int .i64 (r.fst), .int .i64 (r.snd.fst), .int .i64 (r.snd.snd)]) ([])) : ACalls Try.prog tab 14 [.agg [.int .i64 (a0), .int .i64 (a1), .int .i64 (a2), .int .i64 (a3), .int .i64 (a4), .sl (a5) 45 (a6), .int .i64 (a7)]] [] R := by
  refine ACalls.out (fun r => .agg [.int .i64 (r.fst), .int .i64 (r.snd.fst), .int .i64 (r.snd.snd)]) (fun r => []) (Q := Q) (ACalls.introX (mv := mv) tab_ok mixed_ (fn := Try.f14) (by kernel_rfl) rfl (by kernel_rfl) (by kernel_rfl) (leB rfl) ?_) (fun v => by first | exact ⟨rfl, leB rfl⟩ | (cases v <;> exact ⟨rfl, leB rfl⟩)) k
  conv => whnf
  refine ACalls.inn (c_model_whole (W.bindE h) (fun v1 h => ?_)) ⟨rfl, rfl⟩
  conv => whnf
  refine ⟨_, Weak.a ?_, ?_, h⟩; (conv => whnf); exact ⟨rfl, rfl, rfl, rfl, rfl⟩; exact rfl
theorem c_span_Valid {a0 : Int} {a1 : Int} {Q : Bool → Prop} {R : AV → List AB → Prop} (h : (g_span_Valid a0 a1).run Q) (k : ∀ r, Q r → R (.bool (r)) ([])) : ACalls Try.prog tab 13 [.agg [.int .i64 (a0), .int .i64 (a1)]] [] R := by
  refine ACalls.out (fun r => .bool (r)) (fun r => []) (Q := Q) (ACalls.introX (mv := mv) tab_ok mixed_ (fn := Try.f13) (by kernel_rfl) rfl (by kernel_rfl) (by kernel_rfl) (leB rfl) ?_) (fun v => by first | exact ⟨rfl, leB rfl⟩ | (cases v <;> exact ⟨rfl, leB rfl⟩)) k
  conv => whnf
  refine ⟨_, Weak.a ?_, ?_, h⟩; (conv => whnf); exact ⟨rfl, rfl, rfl, rfl, rfl⟩; exact rfl
theorem c_span_Holds {a0 : Int} {a1 : Int} {a2 : Int} {a3 : Int} {Q : Bool → Prop} {R : AV → List AB → Prop} (h : (g_span_Holds a0 a1 a2 a3).run Q) (k : ∀ r, Q r → R (.bool (r)) ([])) : ACalls Try.prog tab 7 [.agg [.int .i64 (a0), .int .i64 (a1)], .agg [.int .i64 (a2), .int .i64 (a3)]] [] R := by
  refine ACalls.out (fun r => .bool (r)) (fun r => []) (Q := Q) (ACalls.introX (mv := mv) tab_ok mixed_ (fn := Try.f7) (by kernel_rfl) rfl (by kernel_rfl) (by kernel_rfl) (leB rfl) ?_) (fun v => by first | exact ⟨rfl, leB rfl⟩ | (cases v <;> exact ⟨rfl, leB rfl⟩)) k
  conv => whnf
  refine ACalls.inn (c_span_Valid (W.bindE h) (fun v1 h => ?_)) ⟨rfl, rfl⟩
  conv => whnf
  refine ⟨_, Weak.a ?_, ?_, h⟩; (conv => whnf); exact ⟨rfl, rfl, rfl, rfl, rfl⟩; exact rfl
theorem c_model_Shapes {a0 : Int} {a1 : Int} {a2 : Int} {a3 : Int} {a4 : Int} {a5 : Bool} {a6 : Rws} {a7 : Int} {Q : Int × Int × Int × Bool × Rws → Prop} {R : AV → List AB → Prop} (h : (g_model_Shapes a0 a1 a2 a3 a4 a5 a6 a7).run Q) (k : ∀ r, Q r → R (.tup [.own 0, .agg [.int .i64 (r.fst), .int .i64 (r.snd.fst), .int .i64 (r.snd.snd.fst)]]) ([.arr true 23 (r.snd.snd.snd.fst) (r.snd.snd.snd.snd)])) : ACalls Try.prog tab 17 [.agg [.int .i64 (a0), .int .i64 (a1), .int .i64 (a2), .int .i64 (a3), .int .i64 (a4), .sl (a5) 45 (a6), .int .i64 (a7)]] [] R := by
  refine ACalls.out (fun r => .tup [.own 0, .agg [.int .i64 (r.fst), .int .i64 (r.snd.fst), .int .i64 (r.snd.snd.fst)]]) (fun r => [.arr true 23 (r.snd.snd.snd.fst) (r.snd.snd.snd.snd)]) (Q := Q) (ACalls.introX (mv := mv) tab_ok mixed_ (fn := Try.f17) (by kernel_rfl) rfl (by kernel_rfl) (by kernel_rfl) (leB rfl) ?_) (fun v => by first | exact ⟨rfl, leB rfl⟩ | (cases v <;> exact ⟨rfl, leB rfl⟩)) k
  conv => whnf
  refine ACalls.inn (c_model_whole (W.bindE h) (fun v1 h => ?_)) ⟨rfl, rfl⟩
  conv => whnf
  refine XDraw.d [0, 1, 2, 3] [[], [], [], [1]] (by decide +kernel) ?_
  conv => whnf
  refine ⟨_, Weak.a ?_, ?_, h⟩; (conv => whnf); exact ⟨rfl, rfl, rfl, rfl, rfl⟩; exact rfl
theorem c_model_Reduces {a0 : Int} {Q : Bool → Prop} {R : AV → List AB → Prop} (h : (g_model_Reduces a0).run Q) (k : ∀ r, Q r → R (.bool (r)) ([])) : ACalls Try.prog tab 21 [.int .i64 (a0)] [] R := by
  refine ACalls.out (fun r => .bool (r)) (fun r => []) (Q := Q) (ACalls.introX (mv := mv) tab_ok mixed_ (fn := Try.f21) (by kernel_rfl) rfl (by kernel_rfl) (by kernel_rfl) (leB rfl) ?_) (fun v => by first | exact ⟨rfl, leB rfl⟩ | (cases v <;> exact ⟨rfl, leB rfl⟩)) k
  conv => whnf
  refine ASeq.go tab_ok mixed_ ?_
  conv => whnf
  refine ASeq.joinW tab_ok mixed_ (fun v1 => ⟨[(2, .kb false), (4, .bool (v1))], [], 0, [], []⟩) h (fun Q h => ?_) (fun v1 h => ?_)
  · conv => whnf
    refine XSplit.mk (fun e => ?_) (fun e => ?_)
    · replace h := XSplit.t h e
      conv => whnf
      refine ⟨_, Weak.a ?_, h⟩; (conv => whnf); exact ⟨rfl, rfl, rfl, rfl, rfl⟩
    · replace h := XSplit.f h e
      conv => whnf
      refine XSplit.mk (fun e => ?_) (fun e => ?_)
      · replace h := XSplit.t h e
        conv => whnf
        refine ⟨_, Weak.a ?_, h⟩; (conv => whnf); exact ⟨rfl, rfl, rfl, rfl, rfl⟩
      · replace h := XSplit.f h e
        conv => whnf
        refine XSplit.mk (fun e => ?_) (fun e => ?_)
        · replace h := XSplit.t h e
          conv => whnf
          refine ⟨_, Weak.a ?_, h⟩; (conv => whnf); exact ⟨rfl, rfl, rfl, rfl, rfl⟩
        · replace h := XSplit.f h e
          conv => whnf
          refine ⟨_, Weak.a ?_, h⟩; (conv => whnf); exact ⟨rfl, rfl, rfl, rfl, rfl⟩
  · conv => whnf
    refine XSplit.mk (fun e => ?_) (fun e => ?_)
    · replace h := XSplit.t h e
      conv => whnf
      refine ⟨_, Weak.a ?_, ?_, h⟩; (conv => whnf); exact ⟨rfl, rfl, rfl, rfl, rfl⟩; exact rfl
    · replace h := XSplit.f h e
      conv => whnf
      refine ⟨_, Weak.a ?_, ?_, h⟩; (conv => whnf); exact ⟨rfl, rfl, rfl, rfl, rfl⟩; exact rfl
theorem c_terms_find {a0 : Int} {a1 : Int} {a2 : Int} {a3 : Int} {a4 : Int} {a5 : Bool} {a6 : Rws} {a7 : Int} {a8 : Int} {Q : Int × Int × Int × Int × Int × Int × Int × Int × Int × Int × Int × Int × Bool × Rws × Bool × Rws × Int × Int × Int × Int × Int × Int × Int × Int × Int × Int × Int × Int × Int × Int × Int × Int → Prop} {R : AV → List AB → Prop} (h : (g_terms_find a0 a1 a2 a3 a4 a5 a6 a7 a8).run Q) (k : ∀ r, Q r → R (.tup [.agg [.int .i64 (r.fst), .int .i64 (r.snd.fst), .int .i64 (r.snd.snd.fst), .int .i64 (r.snd.snd.snd.fst), .int .i64 (r.snd.snd.snd.snd.fst), .int .i64 (r.snd.snd.snd.snd.snd.fst), .int .i64 (r.snd.snd.snd.snd.snd.snd.fst), .int .i64 (r.snd.snd.snd.snd.snd.snd.snd.fst), .int .i64 (r.snd.snd.snd.snd.snd.snd.snd.snd.fst), .int .i64 (r.snd.snd.snd.snd.snd.snd.snd.snd.snd.fst), .int .i64 (r.snd.snd.snd.snd.snd.snd.snd.snd.snd.snd.fst), .int .i64 (r.snd.snd.snd.snd.snd.snd.snd.snd.snd.snd.snd.fst), .sl (r.snd.snd.snd.snd.snd.snd.snd.snd.snd.snd.snd.snd.fst) 74 (r.snd.snd.snd.snd.snd.snd.snd.snd.snd.snd.snd.snd.snd.fst), .sl (r.snd.snd.snd.snd.snd.snd.snd.snd.snd.snd.snd.snd.snd.snd.fst) 21 (r.snd.snd.snd.snd.snd.snd.snd.snd.snd.snd.snd.snd.snd.snd.snd.fst), .int .i64 (r.snd.snd.snd.snd.snd.snd.snd.snd.snd.snd.snd.snd.snd.snd.snd.snd.fst), .int .i64 (r.snd.snd.snd.snd.snd.snd.snd.snd.snd.snd.snd.snd.snd.snd.snd.snd.snd.fst), .int .i64 (r.snd.snd.snd.snd.snd.snd.snd.snd.snd.snd.snd.snd.snd.snd.snd.snd.snd.snd.fst), .int .i64 (r.snd.snd.snd.snd.snd.snd.snd.snd.snd.snd.snd.snd.snd.snd.snd.snd.snd.snd.snd.fst), .int .i64 (r.snd.snd.snd.snd.snd.snd.snd.snd.snd.snd.snd.snd.snd.snd.snd.snd.snd.snd.snd.snd.fst), .int .i64 (r.snd.snd.snd.snd.snd.snd.snd.snd.snd.snd.snd.snd.snd.snd.snd.snd.snd.snd.snd.snd.snd.fst), .int .i64 (r.snd.snd.snd.snd.snd.snd.snd.snd.snd.snd.snd.snd.snd.snd.snd.snd.snd.snd.snd.snd.snd.snd.fst), .int .i64 (r.snd.snd.snd.snd.snd.snd.snd.snd.snd.snd.snd.snd.snd.snd.snd.snd.snd.snd.snd.snd.snd.snd.snd.fst), .int .i64 (r.snd.snd.snd.snd.snd.snd.snd.snd.snd.snd.snd.snd.snd.snd.snd.snd.snd.snd.snd.snd.snd.snd.snd.snd.fst), .int .i64 (r.snd.snd.snd.snd.snd.snd.snd.snd.snd.snd.snd.snd.snd.snd.snd.snd.snd.snd.snd.snd.snd.snd.snd.snd.snd.fst), .int .i64 (r.snd.snd.snd.snd.snd.snd.snd.snd.snd.snd.snd.snd.snd.snd.snd.snd.snd.snd.snd.snd.snd.snd.snd.snd.snd.snd.fst), .int .i64 (r.snd.snd.snd.snd.snd.snd.snd.snd.snd.snd.snd.snd.snd.snd.snd.snd.snd.snd.snd.snd.snd.snd.snd.snd.snd.snd.snd.fst), .int .i64 (r.snd.snd.snd.snd.snd.snd.snd.snd.snd.snd.snd.snd.snd.snd.snd.snd.snd.snd.snd.snd.snd.snd.snd.snd.snd.snd.snd.snd.fst), .int .i64 (r.snd.snd.snd.snd.snd.snd.snd.snd.snd.snd.snd.snd.snd.snd.snd.snd.snd.snd.snd.snd.snd.snd.snd.snd.snd.snd.snd.snd.snd.fst), .int .i64 (r.snd.snd.snd.snd.snd.snd.snd.snd.snd.snd.snd.snd.snd.snd.snd.snd.snd.snd.snd.snd.snd.snd.snd.snd.snd.snd.snd.snd.snd.snd.fst)], .int .i64 (r.snd.snd.snd.snd.snd.snd.snd.snd.snd.snd.snd.snd.snd.snd.snd.snd.snd.snd.snd.snd.snd.snd.snd.snd.snd.snd.snd.snd.snd.snd.snd)]) ([])) : ACalls Try.prog tab 45 [.agg [.int .i64 (a0), .int .i64 (a1), .int .i64 (a2), .int .i64 (a3), .int .i64 (a4), .sl (a5) 45 (a6), .int .i64 (a7)], .int .i64 (a8)] [] R := by
  refine ACalls.out (fun r => .tup [.agg [.int .i64 (r.fst), .int .i64 (r.snd.fst), .int .i64 (r.snd.snd.fst), .int .i64 (r.snd.snd.snd.fst), .int .i64 (r.snd.snd.snd.snd.fst), .int .i64 (r.snd.snd.snd.snd.snd.fst), .int .i64 (r.snd.snd.snd.snd.snd.snd.fst), .int .i64 (r.snd.snd.snd.snd.snd.snd.snd.fst), .int .i64 (r.snd.snd.snd.snd.snd.snd.snd.snd.fst), .int .i64 (r.snd.snd.snd.snd.snd.snd.snd.snd.snd.fst), .int .i64 (r.snd.snd.snd.snd.snd.snd.snd.snd.snd.snd.fst), .int .i64 (r.snd.snd.snd.snd.snd.snd.snd.snd.snd.snd.snd.fst), .sl (r.snd.snd.snd.snd.snd.snd.snd.snd.snd.snd.snd.snd.fst) 74 (r.snd.snd.snd.snd.snd.snd.snd.snd.snd.snd.snd.snd.snd.fst), .sl (r.snd.snd.snd.snd.snd.snd.snd.snd.snd.snd.snd.snd.snd.snd.fst) 21 (r.snd.snd.snd.snd.snd.snd.snd.snd.snd.snd.snd.snd.snd.snd.snd.fst), .int .i64 (r.snd.snd.snd.snd.snd.snd.snd.snd.snd.snd.snd.snd.snd.snd.snd.snd.fst), .int .i64 (r.snd.snd.snd.snd.snd.snd.snd.snd.snd.snd.snd.snd.snd.snd.snd.snd.snd.fst), .int .i64 (r.snd.snd.snd.snd.snd.snd.snd.snd.snd.snd.snd.snd.snd.snd.snd.snd.snd.snd.fst), .int .i64 (r.snd.snd.snd.snd.snd.snd.snd.snd.snd.snd.snd.snd.snd.snd.snd.snd.snd.snd.snd.fst), .int .i64 (r.snd.snd.snd.snd.snd.snd.snd.snd.snd.snd.snd.snd.snd.snd.snd.snd.snd.snd.snd.snd.fst), .int .i64 (r.snd.snd.snd.snd.snd.snd.snd.snd.snd.snd.snd.snd.snd.snd.snd.snd.snd.snd.snd.snd.snd.fst), .int .i64 (r.snd.snd.snd.snd.snd.snd.snd.snd.snd.snd.snd.snd.snd.snd.snd.snd.snd.snd.snd.snd.snd.snd.fst), .int .i64 (r.snd.snd.snd.snd.snd.snd.snd.snd.snd.snd.snd.snd.snd.snd.snd.snd.snd.snd.snd.snd.snd.snd.snd.fst), .int .i64 (r.snd.snd.snd.snd.snd.snd.snd.snd.snd.snd.snd.snd.snd.snd.snd.snd.snd.snd.snd.snd.snd.snd.snd.snd.fst), .int .i64 (r.snd.snd.snd.snd.snd.snd.snd.snd.snd.snd.snd.snd.snd.snd.snd.snd.snd.snd.snd.snd.snd.snd.snd.snd.snd.fst), .int .i64 (r.snd.snd.snd.snd.snd.snd.snd.snd.snd.snd.snd.snd.snd.snd.snd.snd.snd.snd.snd.snd.snd.snd.snd.snd.snd.snd.fst), .int .i64 (r.snd.snd.snd.snd.snd.snd.snd.snd.snd.snd.snd.snd.snd.snd.snd.snd.snd.snd.snd.snd.snd.snd.snd.snd.snd.snd.snd.fst), .int .i64 (r.snd.snd.snd.snd.snd.snd.snd.snd.snd.snd.snd.snd.snd.snd.snd.snd.snd.snd.snd.snd.snd.snd.snd.snd.snd.snd.snd.snd.fst), .int .i64 (r.snd.snd.snd.snd.snd.snd.snd.snd.snd.snd.snd.snd.snd.snd.snd.snd.snd.snd.snd.snd.snd.snd.snd.snd.snd.snd.snd.snd.snd.fst), .int .i64 (r.snd.snd.snd.snd.snd.snd.snd.snd.snd.snd.snd.snd.snd.snd.snd.snd.snd.snd.snd.snd.snd.snd.snd.snd.snd.snd.snd.snd.snd.snd.fst)], .int .i64 (r.snd.snd.snd.snd.snd.snd.snd.snd.snd.snd.snd.snd.snd.snd.snd.snd.snd.snd.snd.snd.snd.snd.snd.snd.snd.snd.snd.snd.snd.snd.snd)]) (fun r => []) (Q := Q) (ACalls.introX (mv := mv) tab_ok mixed_ (fn := Try.f45) (by kernel_rfl) rfl (by kernel_rfl) (by kernel_rfl) (leB rfl) ?_) (fun v => by first | exact ⟨rfl, leB rfl⟩ | (cases v <;> exact ⟨rfl, leB rfl⟩)) k
  conv => whnf
  refine ACalls.inn (c_model_Shapes (W.bindE h) (fun v3 h => ?_)) ⟨rfl, rfl⟩
  conv => whnf
  refine ASeq.go tab_ok mixed_ ?_
  conv => whnf
  refine XSplit.mk (fun e => ?_) (fun e => ?_)
  · replace h := XSplit.t h e
    conv => whnf
    refine XDraw.d [0, 1, 2, 3, 4] [[], [], [], [1], []] (by decide +kernel) ?_
    conv => whnf
    refine ⟨_, Weak.a ?_, ?_, h⟩; (conv => whnf); exact ⟨rfl, rfl, rfl, rfl, rfl⟩; exact rfl
  · replace h := XSplit.f h e
    conv => whnf
    refine XSplit.mk (fun e => ?_) (fun e => ?_)
    · replace h := XSplit.t h e
      conv => whnf
      refine ⟨_, Weak.a ?_, ?_, h⟩; (conv => whnf); exact ⟨rfl, rfl, rfl, rfl, rfl⟩; exact rfl
    · replace h := XSplit.f h e
      conv => whnf
      refine XNeed.mk (XNeed.c h) ?_; replace h := XNeed.x h
      conv => whnf
      refine ACalls.inn (c_model_Reduces (W.bindE h) (fun v4 h => ?_)) ⟨rfl, rfl⟩
      conv => whnf
      refine XSplit.mk (fun e => ?_) (fun e => ?_)
      · replace h := XSplit.t h e
        conv => whnf
        refine ⟨_, Weak.a ?_, ?_, h⟩; (conv => whnf); exact ⟨rfl, rfl, rfl, rfl, rfl⟩; exact rfl
      · replace h := XSplit.f h e
        conv => whnf
        refine XDraw.d [0, 1, 2, 3, 4, 5, 6, 7, 8, 9, 10, 11, 12] [[], [], [], [], [], [], [], [], [], [], [], [], [4]] (by decide +kernel) ?_
        conv => whnf
        refine XNeed.mk (XNeed.c h) ?_; replace h := XNeed.x h
        conv => whnf
        refine XNeed.mk (XNeed.c h) ?_; replace h := XNeed.x h
        conv => whnf
        refine XNeed.mk (XNeed.c h) ?_; replace h := XNeed.x h
        conv => whnf
        refine ASeq.joinW tab_ok mixed_ (fun v5 => ⟨[(4, .ptr 0 0), (5, .int .i64 (0)), (8, .ptr 1 0)], [(0, .box 101 [.int .i64 (0), .int .i64 (0), .int .i64 (0), .int .i64 (0), .int .i64 (0), .int .i64 (0), .int .i64 (0), .int .i64 (0), .int .i64 (0), .int .i64 (0), .int .i64 (0), .int .i64 (0), .nils, .nils, .int .i64 (0), .int .i64 (0), .int .i64 (0), .int .i64 (0), .int .i64 (0), .int .i64 (0), .int .i64 (0), .int .i64 (0), .int .i64 (0), .int .i64 (0), .int .i64 (0), .int .i64 (0), .int .i64 (0), .int .i64 (0), .int .i64 (0)]), (1, .box 101 [.int .i64 (ri a6 (IntKind.i64.wrap (a8 - 1)).toNat 0), .int .i64 (ri a6 (IntKind.i64.wrap (a8 - 1)).toNat 1), .int .i64 (ri a6 (IntKind.i64.wrap (a8 - 1)).toNat 2), .int .i64 (ri a6 (IntKind.i64.wrap (a8 - 1)).toNat 3), .int .i64 (ri a6 (IntKind.i64.wrap (a8 - 1)).toNat 4), .int .i64 (ri a6 (IntKind.i64.wrap (a8 - 1)).toNat 5), .int .i64 (ri a6 (IntKind.i64.wrap (a8 - 1)).toNat 6), .int .i64 (ri a6 (IntKind.i64.wrap (a8 - 1)).toNat 7), .int .i64 (ri a6 (IntKind.i64.wrap (a8 - 1)).toNat 8), .int .i64 (ri a6 (IntKind.i64.wrap (a8 - 1)).toNat 9), .int .i64 (ri a6 (IntKind.i64.wrap (a8 - 1)).toNat 10), .int .i64 (ri a6 (IntKind.i64.wrap (a8 - 1)).toNat 11), .sl (rn a6 (IntKind.i64.wrap (a8 - 1)).toNat 12) 74 (rr a6 (IntKind.i64.wrap (a8 - 1)).toNat 12), .sl (rn a6 (IntKind.i64.wrap (a8 - 1)).toNat 13) 21 (rr a6 (IntKind.i64.wrap (a8 - 1)).toNat 13), .int .i64 (ri a6 (IntKind.i64.wrap (a8 - 1)).toNat 14), .int .i64 (ri a6 (IntKind.i64.wrap (a8 - 1)).toNat 15), .int .i64 (ri a6 (IntKind.i64.wrap (a8 - 1)).toNat 16), .int .i64 (ri a6 (IntKind.i64.wrap (a8 - 1)).toNat 17), .int .i64 (ri a6 (IntKind.i64.wrap (a8 - 1)).toNat 18), .int .i64 (ri a6 (IntKind.i64.wrap (a8 - 1)).toNat 19), .int .i64 (ri a6 (IntKind.i64.wrap (a8 - 1)).toNat 20), .int .i64 (ri a6 (IntKind.i64.wrap (a8 - 1)).toNat 21), .int .i64 (ri v3.snd.snd.snd.snd (ri a6 (IntKind.i64.wrap (a8 - 1)).toNat 1).toNat 0), .int .i64 (ri v3.snd.snd.snd.snd (ri a6 (IntKind.i64.wrap (a8 - 1)).toNat 1).toNat 1), .int .i64 (ri v3.snd.snd.snd.snd (ri a6 (IntKind.i64.wrap (a8 - 1)).toNat 1).toNat 2), .int .i64 (ri v3.snd.snd.snd.snd a8.toNat 0), .int .i64 (ri v3.snd.snd.snd.snd a8.toNat 1), .int .i64 (ri v3.snd.snd.snd.snd a8.toNat 2), .int .i64 (v5)])], 2, [], []⟩) h (fun Q h => ?_) (fun v5 h => ?_)
        · conv => whnf
          refine XSplit.mk (fun e => ?_) (fun e => ?_)
          · replace h := XSplit.t h e
            conv => whnf
            refine ⟨_, Weak.a ?_, h⟩; (conv => whnf); exact ⟨rfl, rfl, rfl, rfl, rfl⟩
          · replace h := XSplit.f h e
            conv => whnf
            refine XSplit.mk (fun e => ?_) (fun e => ?_)
            · replace h := XSplit.t h e
              conv => whnf
              refine ⟨_, Weak.a ?_, h⟩; (conv => whnf); exact ⟨rfl, rfl, rfl, rfl, rfl⟩
            · replace h := XSplit.f h e
              conv => whnf
              refine ⟨_, Weak.a ?_, h⟩; (conv => whnf); exact ⟨rfl, rfl, rfl, rfl, rfl⟩
        · conv => whnf
          refine ⟨_, Weak.a ?_, ?_, h⟩; (conv => whnf); exact ⟨rfl, rfl, rfl, rfl, rfl⟩; exact rfl
theorem c_terms_Channels {a0 : Int} {a1 : Int} {a2 : Int} {a3 : Int} {a4 : Int} {a5 : Bool} {a6 : Rws} {a7 : Int} {a8 : Int} {Q : Int × Int → Prop} {R : AV → List AB → Prop} (h : (g_terms_Channels a0 a1 a2 a3 a4 a5 a6 a7 a8).run Q) (k : ∀ r, Q r → R (.tup [.int .i64 (r.fst), .int .i64 (r.snd)]) ([])) : ACalls Try.prog tab 41 [.agg [.int .i64 (a0), .int .i64 (a1), .int .i64 (a2), .int .i64 (a3), .int .i64 (a4), .sl (a5) 45 (a6), .int .i64 (a7)], .int .i64 (a8)] [] R := by
  refine ACalls.out (fun r => .tup [.int .i64 (r.fst), .int .i64 (r.snd)]) (fun r => []) (Q := Q) (ACalls.introX (mv := mv) tab_ok mixed_ (fn := Try.f41) (by kernel_rfl) rfl (by kernel_rfl) (by kernel_rfl) (leB rfl) ?_) (fun v => by first | exact ⟨rfl, leB rfl⟩ | (cases v <;> exact ⟨rfl, leB rfl⟩)) k
  conv => whnf
  refine ACalls.inn (c_terms_find (W.bindE h) (fun v1 h => ?_)) ⟨rfl, rfl⟩
  conv => whnf
  refine ⟨_, Weak.a ?_, ?_, h⟩; (conv => whnf); exact ⟨rfl, rfl, rfl, rfl, rfl⟩; exact rfl
theorem c_window_Taps {a0 : Int} {a1 : Int} {a2 : Int} {a3 : Int} {a4 : Int} {a5 : Int} {a6 : Int} {a7 : Int} {a8 : Int} {a9 : Int} {a10 : Int} {a11 : Int} {Q : (Unit) ⊕ (Int × Int × Int × Int × Int × Int × Int × Int × Int × Int × Int × Int × Int) → Prop} {R : AV → List AB → Prop} (h : (g_window_Taps a0 a1 a2 a3 a4 a5 a6 a7 a8 a9 a10 a11).run Q) (k : ∀ r, Q r → R (sx (fun r => .fn 62 [] []) (fun r => .fn 63 [] [.ptr 0 0, .ptr 1 0, .ptr 2 0, .ptr 3 0]) r) (sx (fun r => []) (fun r => [.box 39 [.int .i64 (r.fst), .int .i64 (r.snd.fst), .int .i64 (r.snd.snd.fst), .int .i64 (r.snd.snd.snd.fst), .int .i64 (r.snd.snd.snd.snd.fst), .int .i64 (r.snd.snd.snd.snd.snd.fst), .int .i64 (r.snd.snd.snd.snd.snd.snd.fst), .int .i64 (r.snd.snd.snd.snd.snd.snd.snd.fst)], .box 3 [.int .i64 (r.snd.snd.snd.snd.snd.snd.snd.snd.fst)], .box 3 [.int .i64 (r.snd.snd.snd.snd.snd.snd.snd.snd.snd.fst)], .box 23 [.int .i64 (r.snd.snd.snd.snd.snd.snd.snd.snd.snd.snd.fst), .int .i64 (r.snd.snd.snd.snd.snd.snd.snd.snd.snd.snd.snd.fst), .int .i64 (r.snd.snd.snd.snd.snd.snd.snd.snd.snd.snd.snd.snd)]]) r)) : ACalls Try.prog tab 37 [.agg [.int .i64 (a0), .int .i64 (a1), .int .i64 (a2)], .agg [.int .i64 (a3), .int .i64 (a4), .int .i64 (a5), .int .i64 (a6), .int .i64 (a7), .int .i64 (a8), .int .i64 (a9), .int .i64 (a10)], .int .i64 (a11)] [] R := by
  refine ACalls.out (fun r => sx (fun r => .fn 62 [] []) (fun r => .fn 63 [] [.ptr 0 0, .ptr 1 0, .ptr 2 0, .ptr 3 0]) r) (fun r => sx (fun r => []) (fun r => [.box 39 [.int .i64 (r.fst), .int .i64 (r.snd.fst), .int .i64 (r.snd.snd.fst), .int .i64 (r.snd.snd.snd.fst), .int .i64 (r.snd.snd.snd.snd.fst), .int .i64 (r.snd.snd.snd.snd.snd.fst), .int .i64 (r.snd.snd.snd.snd.snd.snd.fst), .int .i64 (r.snd.snd.snd.snd.snd.snd.snd.fst)], .box 3 [.int .i64 (r.snd.snd.snd.snd.snd.snd.snd.snd.fst)], .box 3 [.int .i64 (r.snd.snd.snd.snd.snd.snd.snd.snd.snd.fst)], .box 23 [.int .i64 (r.snd.snd.snd.snd.snd.snd.snd.snd.snd.snd.fst), .int .i64 (r.snd.snd.snd.snd.snd.snd.snd.snd.snd.snd.snd.fst), .int .i64 (r.snd.snd.snd.snd.snd.snd.snd.snd.snd.snd.snd.snd)]]) r) (Q := Q) (ACalls.introX (mv := mv) tab_ok mixed_ (fn := Try.f37) (by kernel_rfl) rfl (by kernel_rfl) (by kernel_rfl) (leB rfl) ?_) (fun v => by first | exact ⟨rfl, leB rfl⟩ | (cases v <;> exact ⟨rfl, leB rfl⟩)) k
  conv => whnf
  refine ACalls.inn (c_window_Out (W.bindE h) (fun v1 h => ?_)) ⟨rfl, rfl⟩
  conv => whnf
  refine ASeq.go tab_ok mixed_ ?_
  conv => whnf
  refine XSplit.mk (fun e => ?_) (fun e => ?_)
  · replace h := XSplit.t h e
    conv => whnf
    refine ⟨_, Weak.a ?_, ?_, h⟩; (conv => whnf); exact ⟨rfl, rfl, rfl, rfl, rfl⟩; exact rfl
  · replace h := XSplit.f h e
    conv => whnf
    refine ASeq.eff tab_ok mixed_ [0, 1, 2, 3, 4, 5, 6, 7, 8, 9, 10, 11, 12, 13, 14, 15, 16, 17] (.alt 18 (.alt 19 (.alt 20 (.alt 21 .done .stop) .stop) .stop) (.alt 19 (.alt 18 (.alt 20 (.alt 21 .done .stop) .stop) .stop) .stop)) (by decide +kernel) (st' := ⟨[(3, .ptr 0 0), (4, .ptr 1 0), (6, .nilf), (10, .ptr 2 0), (11, .ptr 3 0)], [(0, .box 23 [.int .i64 (a0), .int .i64 (a1), .int .i64 (a2)]), (1, .box 39 [.int .i64 (a3), .int .i64 (a4), .int .i64 (a5), .int .i64 (a6), .int .i64 (a7), .int .i64 (a8), .int .i64 (a9), .int .i64 (a10)]), (2, .box 3 [.int .i64 (IntKind.i64.wrap (IntKind.i64.wrap (IntKind.i64.wrap (a11.tdiv v1.snd.fst) * a5) - a7))]), (3, .box 3 [.int .i64 (IntKind.i64.wrap (IntKind.i64.wrap (a11.tmod v1.snd.fst * a6) - a8))])], 4, [], []⟩) ?_ ?_
    · conv => whnf
      refine XNeed.mk (XNeed.c h) ?_; replace h := XNeed.x h
      conv => whnf
      refine XNeed.mk (XNeed.c h) ?_; replace h := XNeed.x h
      conv => whnf
      refine ⟨?_, rfl⟩
      conv => whnf
      refine ⟨?_, ?_⟩
      · conv => whnf
        refine ⟨?_, ?_⟩
        · conv => whnf
          refine ⟨?_, ?_⟩
          · conv => whnf
            refine ⟨?_, ?_⟩
            · conv => whnf
              refine ⟨Weak.a ?_⟩; (conv => whnf); exact ⟨rfl, rfl, rfl, rfl, rfl⟩
            · conv => whnf
              exact trivial
          · conv => whnf
            exact trivial
        · conv => whnf
          exact trivial
      · conv => whnf
        refine ⟨?_, ?_⟩
        · conv => whnf
          refine ⟨?_, ?_⟩
          · conv => whnf
            refine ⟨?_, ?_⟩
            · conv => whnf
              refine ⟨?_, ?_⟩
              · conv => whnf
                refine ⟨Weak.a ?_⟩; (conv => whnf); exact ⟨rfl, rfl, rfl, rfl, rfl⟩
              · conv => whnf
                exact trivial
            · conv => whnf
              exact trivial
          · conv => whnf
            exact trivial
        · conv => whnf
          exact trivial
    · replace h := XNeed.x h
      replace h := XNeed.x h
      conv => whnf
      refine ⟨_, Weak.a ?_, ?_, h⟩; (conv => whnf); exact ⟨rfl, rfl, rfl, rfl, rfl⟩; exact rfl
theorem it_window_Taps_1 : AIter Try.prog tab 62 [] (fun _ : Unit => [I 0, I 0]) ([] : List (W Unit)) := AIter.nothing (fn := Try.f62) (by kernel_rfl) (by kernel_rfl) (by kernel_rfl) (by kernel_rfl)
theorem q_window_Taps_2 {a0 : Int} {a1 : Int} {a2 : Int} {a3 : Int} {a4 : Int} {a5 : Int} {a6 : Int} {a7 : Int} {a8 : Int} {a9 : Int} {a10 : Int} {a11 : Int} {a12 : Int} : XS Try.prog tab mv [itPre (bodyC Try.f63)] ⟨[(1, .rel 39 ([[I a0, I a1, I a2, I a3, I a4, I a5, I a6, I a7]]) (0) 0), (2, .rel 3 ([[I a8]]) (0) 0), (3, .rel 3 ([[I a9]]) (0) 0), (4, .rel 23 ([[I a10, I a11, I a12]]) (0) 0)], [], 0, [], []⟩ (fun s => getE s.env 14 = .int .i64 (g_window_Taps_2_n a0 a1 a2 a3 a4 a5 a6 a7 a8 a9 a10 a11 a12) ∧ getE s.env 15 = .int .i64 0) := by
  conv => whnf
  exact ⟨rfl, rfl⟩
theorem p_window_Taps_2 {i : Int} {a0 : Int} {a1 : Int} {a2 : Int} {a3 : Int} {a4 : Int} {a5 : Int} {a6 : Int} {a7 : Int} {a8 : Int} {a9 : Int} {a10 : Int} {a11 : Int} {a12 : Int} {Q : Int × Int → Prop} (h : (g_window_Taps_2 i a0 a1 a2 a3 a4 a5 a6 a7 a8 a9 a10 a11 a12).run Q) : XS Try.prog tab mv (seqTake 4 (itBlk (bodyC Try.f63))) ⟨[(15, I i), (1, .rel 39 ([[I a0, I a1, I a2, I a3, I a4, I a5, I a6, I a7]]) (0) 0), (2, .rel 3 ([[I a8]]) (0) 0), (3, .rel 3 ([[I a9]]) (0) 0), (4, .rel 23 ([[I a10, I a11, I a12]]) (0) 0)], [], 0, [], []⟩ (fun s => ∃ x, Q x ∧ all2 (GiveS tab s) [6, 9] ((fun x : Int × Int => [I x.1, I x.2]) x)) := by
  conv => whnf
  refine XDraw.q [0, 1, 2, 3, 4, 5, 6, 7, 8, 9, 10, 11, 12, 13] (by decide +kernel) ?_
  conv => whnf
  refine XNeed.mk (XNeed.c h) ?_; replace h := XNeed.x h
  conv => whnf
  refine XNeed.mk (XNeed.c h) ?_; replace h := XNeed.x h
  conv => whnf
  refine ASeq.joinW tab_ok mixed_ (fun v3 => ⟨[(4, .rel 23 ([[I a10, I a11, I a12]]) (0) 0), (6, .int .i64 (i)), (7, .int .i64 (IntKind.i64.wrap (a8 + IntKind.i64.wrap (i.tdiv a1)))), (8, .int .i64 (IntKind.i64.wrap (a9 + i.tmod a1))), (9, .int .i64 (-1)), (41, .bool (v3))], [], 0, [], []⟩) h (fun Q h => ?_) (fun v3 h => ?_)
  · conv => whnf
    refine ACalls.inn (c_window_within (W.bindE h) (fun v4 h => ?_)) ⟨rfl, rfl⟩
    conv => whnf
    refine XSplit.mk (fun e => ?_) (fun e => ?_)
    · replace h := XSplit.t h e
      conv => whnf
      refine ACalls.inn (c_window_within (W.bindE h) (fun v5 h => ?_)) ⟨rfl, rfl⟩
      conv => whnf
      refine ⟨_, Weak.a ?_, h⟩; (conv => whnf); exact ⟨rfl, rfl, rfl, rfl, rfl⟩
    · replace h := XSplit.f h e
      conv => whnf
      refine ⟨_, Weak.a ?_, h⟩; (conv => whnf); exact ⟨rfl, rfl, rfl, rfl, rfl⟩
  · conv => whnf
    refine XSplit.mk (fun e => ?_) (fun e => ?_)
    · replace h := XSplit.t h e
      conv => whnf
      exact ⟨_, h, (And.intro (Or.inl ⟨_, rfl, rfl⟩) (And.intro (Or.inl ⟨_, rfl, rfl⟩) trivial))⟩
    · replace h := XSplit.f h e
      conv => whnf
      exact ⟨_, h, (And.intro (Or.inl ⟨_, rfl, rfl⟩) (And.intro (Or.inl ⟨_, rfl, rfl⟩) trivial))⟩
theorem it_window_Taps_2 {a0 : Int} {a1 : Int} {a2 : Int} {a3 : Int} {a4 : Int} {a5 : Int} {a6 : Int} {a7 : Int} {a8 : Int} {a9 : Int} {a10 : Int} {a11 : Int} {a12 : Int} (hN : 0 ≤ g_window_Taps_2_n a0 a1 a2 a3 a4 a5 a6 a7 a8 a9 a10 a11 a12 ∧ g_window_Taps_2_n a0 a1 a2 a3 a4 a5 a6 a7 a8 a9 a10 a11 a12 ≤ 9223372036854775807) : AIter Try.prog tab 63 [[.int .i64 (a0), .int .i64 (a1), .int .i64 (a2), .int .i64 (a3), .int .i64 (a4), .int .i64 (a5), .int .i64 (a6), .int .i64 (a7)], [.int .i64 (a8)], [.int .i64 (a9)], [.int .i64 (a10), .int .i64 (a11), .int .i64 (a12)]] (fun x : Int × Int => [I x.1, I x.2]) ((List.range (g_window_Taps_2_n a0 a1 a2 a3 a4 a5 a6 a7 a8 a9 a10 a11 a12).toNat).map fun (k : Nat) => g_window_Taps_2 (k : Int) a0 a1 a2 a3 a4 a5 a6 a7 a8 a9 a10 a11 a12) :=
  AIter.count (mv := mv) tab_ok mixed_ (fn := Try.f63) (n := 54) (k := 4) (ti := 15) (tn := 14) (tc := 16) (tN := 52) (b0 := 0) (b1 := 1) (args := [6, 9]) (wr := [48, 49, 50, 51, 52]) (rels := [(39, [.int .i64 (a0), .int .i64 (a1), .int .i64 (a2), .int .i64 (a3), .int .i64 (a4), .int .i64 (a5), .int .i64 (a6), .int .i64 (a7)]), (3, [.int .i64 (a8)]), (3, [.int .i64 (a9)]), (23, [.int .i64 (a10), .int .i64 (a11), .int .i64 (a12)])]) (N := g_window_Taps_2_n a0 a1 a2 a3 a4 a5 a6 a7 a8 a9 a10 a11 a12) (pre := itPre (bodyC Try.f63)) (R1 := itR1 (bodyC Try.f63)) (Y := itY 4 (bodyC Try.f63)) (INC := itInc (bodyC Try.f63)) (ps := seqTake 4 (itBlk (bodyC Try.f63))) (em := (fun x : Int × Int => [I x.1, I x.2])) (row := fun (k : Nat) => g_window_Taps_2 (k : Int) a0 a1 a2 a3 a4 a5 a6 a7 a8 a9 a10 a11 a12) (by kernel_rfl) (by kernel_rfl) rfl rfl (by kernel_rfl) (And.intro ⟨_, rfl, leB rfl, rfl⟩ (And.intro ⟨_, rfl, leB rfl, rfl⟩ (And.intro ⟨_, rfl, leB rfl, rfl⟩ (And.intro ⟨_, rfl, leB rfl, rfl⟩ trivial)))) rfl hN.1
    ⟨leB rfl, by decide, by decide, by decide +kernel, by decide +kernel, by decide +kernel, by decide +kernel, YReg.two (tA := 48) (tB := 49) (tD := 50) (tR := 51) (tN := 52) (src := 6) (src2 := 9) rfl (by decide), q_window_Taps_2, fun i => (by (conv => whnf); exact rfl), fun i Q _ h => p_window_Taps_2 h, fun i hi => (by (conv => whnf); exact inc64 hi hN.2)⟩
theorem c__terms_site__places {a0 : Int} {a1 : Int} {a2 : Int} {a3 : Int} {a4 : Int} {a5 : Int} {a6 : Int} {a7 : Int} {a8 : Int} {a9 : Int} {a10 : Int} {a11 : Int} {a12 : Bool} {a13 : Rws} {a14 : Bool} {a15 : Rws} {a16 : Int} {a17 : Int} {a18 : Int} {a19 : Int} {a20 : Int} {a21 : Int} {a22 : Int} {a23 : Int} {a24 : Int} {a25 : Int} {a26 : Int} {a27 : Int} {a28 : Int} {a29 : Int} {a30 : Int} {a31 : Int} {a32 : Int} {Q : Bool × Rws → Prop} {R : AV → List AB → Prop} (h : (g__terms_site__places a0 a1 a2 a3 a4 a5 a6 a7 a8 a9 a10 a11 a12 a13 a14 a15 a16 a17 a18 a19 a20 a21 a22 a23 a24 a25 a26 a27 a28 a29 a30 a31 a32).run Q) (k : ∀ r, Q r → R (.own 0) ([.arr true 3 (r.fst) (r.snd)])) : ACalls Try.prog tab 75 [.agg [.int .i64 (a0), .int .i64 (a1), .int .i64 (a2), .int .i64 (a3), .int .i64 (a4), .int .i64 (a5), .int .i64 (a6), .int .i64 (a7), .int .i64 (a8), .int .i64 (a9), .int .i64 (a10), .int .i64 (a11), .sl (a12) 74 (a13), .sl (a14) 21 (a15), .int .i64 (a16), .int .i64 (a17), .int .i64 (a18), .int .i64 (a19), .int .i64 (a20), .int .i64 (a21), .int .i64 (a22), .int .i64 (a23), .int .i64 (a24), .int .i64 (a25), .int .i64 (a26), .int .i64 (a27), .int .i64 (a28), .int .i64 (a29), .int .i64 (a30)], .int .i64 (a31), .int .i64 (a32)] [] R := by
  refine ACalls.out (fun r => .own 0) (fun r => [.arr true 3 (r.fst) (r.snd)]) (Q := Q) (ACalls.introX (mv := mv) tab_ok mixed_ (fn := Try.f75) (by kernel_rfl) rfl (by kernel_rfl) (by kernel_rfl) (leB rfl) ?_) (fun v => by first | exact ⟨rfl, leB rfl⟩ | (cases v <;> exact ⟨rfl, leB rfl⟩)) k
  conv => whnf
  refine ASeq.go tab_ok mixed_ ?_
  conv => whnf
  refine XSplit.mk (fun e => ?_) (fun e => ?_)
  · replace h := XSplit.t h e
    conv => whnf
    refine ASeq.go tab_ok mixed_ ?_
    conv => whnf
    refine ALoop.ofW tab_ok mixed_ (fun v15 => ⟨[(6, .nils), (7, .ptr 0 0), (19, .int .i64 (a30)), (20, .int .i64 (v15.fst))], [(0, .box 125 [.own 1]), (1, .arr true 3 (v15.snd.fst) (v15.snd.snd))], 2, [], []⟩) (fun v16 => (.exit 0, ⟨[(6, .nils), (7, .ptr 0 0)], [(0, .box 125 [.own 1]), (1, .arr true 3 (v16.fst) (v16.snd))], 2, [], []⟩)) (W.bindE h) (Weak.a ?_) (fun v15 J_ Q h => ?_) (fun v16 h => ?_)
    · conv => whnf
      exact ⟨rfl, rfl, rfl, rfl, rfl⟩
    · conv => whnf
      refine ASeq.go tab_ok mixed_ ?_
      conv => whnf
      refine XSplit.mk (fun e => ?_) (fun e => ?_)
      · replace h := XSplit.t h e
        conv => whnf
        refine ASeq.go tab_ok mixed_ ?_
        conv => whnf
        refine XNeed.mk (XNeed.c h) ?_; replace h := XNeed.x h
        conv => whnf
        refine ⟨_, Weak.a ?_, h⟩; (conv => whnf); exact ⟨rfl, rfl, rfl, rfl, rfl⟩
      · replace h := XSplit.f h e
        conv => whnf
        refine ⟨_, ?_, Weak.a ?_, h⟩; exact rfl; (conv => whnf); exact ⟨rfl, rfl, rfl, rfl, rfl⟩
    · conv => whnf
      refine ⟨_, Weak.a ?_, ?_, h⟩; (conv => whnf); exact ⟨rfl, rfl, rfl, rfl, rfl⟩; exact rfl
  · replace h := XSplit.f h e
    conv => whnf
    refine ASeq.joinW tab_ok mixed_ (fun v17 => ⟨[(2, .int .i64 (a32)), (3, .ptr 0 0), (6, .nils), (7, .ptr 1 0), (9, .ptr 2 0), (10, .ptr 3 0)], [(0, .box 101 [.int .i64 (a0), .int .i64 (a1), .int .i64 (a2), .int .i64 (a3), .int .i64 (a4), .int .i64 (a5), .int .i64 (a6), .int .i64 (a7), .int .i64 (a8), .int .i64 (a9), .int .i64 (a10), .int .i64 (a11), .sl (a12) 74 (a13), .sl (a14) 21 (a15), .int .i64 (a16), .int .i64 (a17), .int .i64 (a18), .int .i64 (a19), .int .i64 (a20), .int .i64 (a21), .int .i64 (a22), .int .i64 (a23), .int .i64 (a24), .int .i64 (a25), .int .i64 (a26), .int .i64 (a27), .int .i64 (a28), .int .i64 (a29), .int .i64 (a30)]), (1, .box 125 [.nils]), (2, .box 3 [.int .i64 (v17.fst)]), (3, .box 3 [.int .i64 (v17.snd)])], 4, [], []⟩) h (fun Q h => ?_) (fun v17 h => ?_)
    · conv => whnf
      refine XSplit.mk (fun e => ?_) (fun e => ?_)
      · replace h := XSplit.t h e
        conv => whnf
        refine XDraw.d [0, 1, 2, 3, 4, 5] [[], [], [], [], [2], [3]] (by decide +kernel) ?_
        conv => whnf
        refine ⟨_, Weak.a ?_, h⟩; (conv => whnf); exact ⟨rfl, rfl, rfl, rfl, rfl⟩
      · replace h := XSplit.f h e
        conv => whnf
        refine ⟨_, Weak.a ?_, h⟩; (conv => whnf); exact ⟨rfl, rfl, rfl, rfl, rfl⟩
    · conv => whnf
      refine ASeq.joinW tab_ok mixed_ (fun v18 => ⟨[(6, .nils), (7, .ptr 0 0)], [(0, .box 125 [.own 1]), (1, .arr true 3 (v18.fst) (v18.snd))], 2, [], []⟩) h (fun Q h => ?_) (fun v18 h => ?_)
      · conv => whnf
        refine ACalls.inn (c_window_Taps (W.bindE h) (fun v h => ?_)) ⟨rfl, rfl⟩
        rcases v with v19 | v23
        · conv => whnf
          refine ASeq.range tab_ok mixed_ 0 (ids := []) (cs := []) (fx := [3, 6, 7, 9, 10, 47]) (fun v20 => ⟨[(3, .ptr 0 0), (6, .nils), (7, .ptr 1 0), (9, .ptr 2 0), (10, .ptr 3 0), (47, .fn 62 [] [])], [(0, .box 101 [.int .i64 (a0), .int .i64 (a1), .int .i64 (a2), .int .i64 (a3), .int .i64 (a4), .int .i64 (a5), .int .i64 (a6), .int .i64 (a7), .int .i64 (a8), .int .i64 (a9), .int .i64 (a10), .int .i64 (a11), .sl (a12) 74 (a13), .sl (a14) 21 (a15), .int .i64 (a16), .int .i64 (a17), .int .i64 (a18), .int .i64 (a19), .int .i64 (a20), .int .i64 (a21), .int .i64 (a22), .int .i64 (a23), .int .i64 (a24), .int .i64 (a25), .int .i64 (a26), .int .i64 (a27), .int .i64 (a28), .int .i64 (a29), .int .i64 (a30)]), (1, .box 125 [.nils]), (2, .box 3 [.int .i64 (v17.fst)]), (3, .box 3 [.int .i64 (v17.snd)])], 4, [], []⟩) _ ⟨fun _ => rfl, fun _ => trivial, rfl, rfl, leB rfl, fun _ => leB rfl, fun _ => rfl, fun _ => ⟨rfl, rfl⟩, rfl, by decide +kernel, by decide +kernel⟩ it_window_Taps_1 (fun _ => rfl) (W.bindE h) (Weak.a ?_) (fun _ v20 Q h => ?_) (fun v22 h => ?_)
          · conv => whnf
            exact ⟨rfl, rfl, rfl, rfl, rfl⟩
          · skip
            exact h.elim
          · conv => whnf
            refine ⟨_, Weak.a ?_, h⟩; (conv => whnf); exact ⟨rfl, rfl, rfl, rfl, rfl⟩
        · conv => whnf
          have hN := XNeed.c h; replace h := XNeed.x h
          refine ASeq.range tab_ok mixed_ 4 (ids := [0, 1, 2, 3]) (cs := [[.int .i64 (v23.fst), .int .i64 (v23.snd.fst), .int .i64 (v23.snd.snd.fst), .int .i64 (v23.snd.snd.snd.fst), .int .i64 (v23.snd.snd.snd.snd.fst), .int .i64 (v23.snd.snd.snd.snd.snd.fst), .int .i64 (v23.snd.snd.snd.snd.snd.snd.fst), .int .i64 (v23.snd.snd.snd.snd.snd.snd.snd.fst)], [.int .i64 (v23.snd.snd.snd.snd.snd.snd.snd.snd.fst)], [.int .i64 (v23.snd.snd.snd.snd.snd.snd.snd.snd.snd.fst)], [.int .i64 (v23.snd.snd.snd.snd.snd.snd.snd.snd.snd.snd.fst), .int .i64 (v23.snd.snd.snd.snd.snd.snd.snd.snd.snd.snd.snd.fst), .int .i64 (v23.snd.snd.snd.snd.snd.snd.snd.snd.snd.snd.snd.snd)]]) (fx := [3, 6, 7, 9, 10, 47]) (fun v24 => ⟨[(3, .ptr 4 0), (6, .nils), (7, .ptr 5 0), (9, .ptr 6 0), (10, .ptr 7 0), (47, .fn 63 [] [.ptr 0 0, .ptr 1 0, .ptr 2 0, .ptr 3 0])], [(0, .box 39 [.int .i64 (v23.fst), .int .i64 (v23.snd.fst), .int .i64 (v23.snd.snd.fst), .int .i64 (v23.snd.snd.snd.fst), .int .i64 (v23.snd.snd.snd.snd.fst), .int .i64 (v23.snd.snd.snd.snd.snd.fst), .int .i64 (v23.snd.snd.snd.snd.snd.snd.fst), .int .i64 (v23.snd.snd.snd.snd.snd.snd.snd.fst)]), (1, .box 3 [.int .i64 (v23.snd.snd.snd.snd.snd.snd.snd.snd.fst)]), (2, .box 3 [.int .i64 (v23.snd.snd.snd.snd.snd.snd.snd.snd.snd.fst)]), (3, .box 23 [.int .i64 (v23.snd.snd.snd.snd.snd.snd.snd.snd.snd.snd.fst), .int .i64 (v23.snd.snd.snd.snd.snd.snd.snd.snd.snd.snd.snd.fst), .int .i64 (v23.snd.snd.snd.snd.snd.snd.snd.snd.snd.snd.snd.snd)]), (4, .box 101 [.int .i64 (a0), .int .i64 (a1), .int .i64 (a2), .int .i64 (a3), .int .i64 (a4), .int .i64 (a5), .int .i64 (a6), .int .i64 (a7), .int .i64 (a8), .int .i64 (a9), .int .i64 (a10), .int .i64 (a11), .sl (a12) 74 (a13), .sl (a14) 21 (a15), .int .i64 (a16), .int .i64 (a17), .int .i64 (a18), .int .i64 (a19), .int .i64 (a20), .int .i64 (a21), .int .i64 (a22), .int .i64 (a23), .int .i64 (a24), .int .i64 (a25), .int .i64 (a26), .int .i64 (a27), .int .i64 (a28), .int .i64 (a29), .int .i64 (a30)]), (5, .box 125 [.own 8]), (6, .box 3 [.int .i64 (v17.fst)]), (7, .box 3 [.int .i64 (v17.snd)]), (8, .arr true 3 (v24.fst) (v24.snd))], 9, [], []⟩) _ ⟨fun _ => rfl, fun _ => (And.intro (Exists.intro _ rfl) (And.intro (Exists.intro _ rfl) (And.intro (Exists.intro _ rfl) (And.intro (Exists.intro _ rfl) trivial)))), rfl, rfl, leB rfl, fun _ => leB rfl, fun _ => rfl, fun _ => ⟨rfl, rfl⟩, rfl, by decide +kernel, by decide +kernel⟩ (it_window_Taps_2 hN) (fun _ => rfl) (W.bindE h) (Weak.a ?_) (fun v25 v24 Q h => ?_) (fun v29 h => ?_)
          · conv => whnf
            exact ⟨rfl, rfl, rfl, rfl, rfl⟩
          · conv => whnf
            refine ALoop.ofW tab_ok mixed_ (fun v26 => ⟨[(3, .ptr 4 0), (6, .nils), (7, .ptr 5 0), (9, .ptr 6 0), (10, .ptr 7 0), (12, .int .i64 (v25.snd)), (13, .int .i64 (v26.fst)), (47, .fn 63 [] [.ptr 0 0, .ptr 1 0, .ptr 2 0, .ptr 3 0]), (50, .int .i64 (v17.fst))], [(0, .box 39 [.int .i64 (v23.fst), .int .i64 (v23.snd.fst), .int .i64 (v23.snd.snd.fst), .int .i64 (v23.snd.snd.snd.fst), .int .i64 (v23.snd.snd.snd.snd.fst), .int .i64 (v23.snd.snd.snd.snd.snd.fst), .int .i64 (v23.snd.snd.snd.snd.snd.snd.fst), .int .i64 (v23.snd.snd.snd.snd.snd.snd.snd.fst)]), (1, .box 3 [.int .i64 (v23.snd.snd.snd.snd.snd.snd.snd.snd.fst)]), (2, .box 3 [.int .i64 (v23.snd.snd.snd.snd.snd.snd.snd.snd.snd.fst)]), (3, .box 23 [.int .i64 (v23.snd.snd.snd.snd.snd.snd.snd.snd.snd.snd.fst), .int .i64 (v23.snd.snd.snd.snd.snd.snd.snd.snd.snd.snd.snd.fst), .int .i64 (v23.snd.snd.snd.snd.snd.snd.snd.snd.snd.snd.snd.snd)]), (4, .box 101 [.int .i64 (a0), .int .i64 (a1), .int .i64 (a2), .int .i64 (a3), .int .i64 (a4), .int .i64 (a5), .int .i64 (a6), .int .i64 (a7), .int .i64 (a8), .int .i64 (a9), .int .i64 (a10), .int .i64 (a11), .sl (a12) 74 (a13), .sl (a14) 21 (a15), .int .i64 (a16), .int .i64 (a17), .int .i64 (a18), .int .i64 (a19), .int .i64 (a20), .int .i64 (a21), .int .i64 (a22), .int .i64 (a23), .int .i64 (a24), .int .i64 (a25), .int .i64 (a26), .int .i64 (a27), .int .i64 (a28), .int .i64 (a29), .int .i64 (a30)]), (5, .box 125 [.own 8]), (6, .box 3 [.int .i64 (v17.fst)]), (7, .box 3 [.int .i64 (v17.snd)]), (8, .arr true 3 (v26.snd.fst) (v26.snd.snd))], 9, [], []⟩) (fun v27 => (.exit 4, ⟨[(3, .ptr 4 0), (6, .nils), (7, .ptr 5 0), (9, .ptr 6 0), (10, .ptr 7 0), (12, .int .i64 (v25.snd)), (13, .int .i64 (v27.fst)), (47, .fn 63 [] [.ptr 0 0, .ptr 1 0, .ptr 2 0, .ptr 3 0]), (50, .int .i64 (v17.fst)), (51, .int .i64 (v27.snd.fst)), (52, .int .i64 (v17.snd)), (53, .bool (v27.snd.snd.fst))], [(0, .box 39 [.int .i64 (v23.fst), .int .i64 (v23.snd.fst), .int .i64 (v23.snd.snd.fst), .int .i64 (v23.snd.snd.snd.fst), .int .i64 (v23.snd.snd.snd.snd.fst), .int .i64 (v23.snd.snd.snd.snd.snd.fst), .int .i64 (v23.snd.snd.snd.snd.snd.snd.fst), .int .i64 (v23.snd.snd.snd.snd.snd.snd.snd.fst)]), (1, .box 3 [.int .i64 (v23.snd.snd.snd.snd.snd.snd.snd.snd.fst)]), (2, .box 3 [.int .i64 (v23.snd.snd.snd.snd.snd.snd.snd.snd.snd.fst)]), (3, .box 23 [.int .i64 (v23.snd.snd.snd.snd.snd.snd.snd.snd.snd.snd.fst), .int .i64 (v23.snd.snd.snd.snd.snd.snd.snd.snd.snd.snd.snd.fst), .int .i64 (v23.snd.snd.snd.snd.snd.snd.snd.snd.snd.snd.snd.snd)]), (4, .box 101 [.int .i64 (a0), .int .i64 (a1), .int .i64 (a2), .int .i64 (a3), .int .i64 (a4), .int .i64 (a5), .int .i64 (a6), .int .i64 (a7), .int .i64 (a8), .int .i64 (a9), .int .i64 (a10), .int .i64 (a11), .sl (a12) 74 (a13), .sl (a14) 21 (a15), .int .i64 (a16), .int .i64 (a17), .int .i64 (a18), .int .i64 (a19), .int .i64 (a20), .int .i64 (a21), .int .i64 (a22), .int .i64 (a23), .int .i64 (a24), .int .i64 (a25), .int .i64 (a26), .int .i64 (a27), .int .i64 (a28), .int .i64 (a29), .int .i64 (a30)]), (5, .box 125 [.own 8]), (6, .box 3 [.int .i64 (v17.fst)]), (7, .box 3 [.int .i64 (v17.snd)]), (8, .arr true 3 (v27.snd.snd.snd.fst) (v27.snd.snd.snd.snd))], 9, [], []⟩)) (W.bindE h) (Weak.a ?_) (fun v26 J_ Q h => ?_) (fun v27 h => ?_)
            · conv => whnf
              exact ⟨rfl, rfl, rfl, rfl, rfl⟩
            · conv => whnf
              refine ASeq.go tab_ok mixed_ ?_
              conv => whnf
              refine XSplit.mk (fun e => ?_) (fun e => ?_)
              · replace h := XSplit.t h e
                conv => whnf
                refine ASeq.joinW tab_ok mixed_ (fun v28 => ⟨[(3, .ptr 4 0), (6, .nils), (7, .ptr 5 0), (9, .ptr 6 0), (10, .ptr 7 0), (12, .int .i64 (v25.snd)), (13, .int .i64 (v26.fst)), (47, .fn 63 [] [.ptr 0 0, .ptr 1 0, .ptr 2 0, .ptr 3 0]), (50, .int .i64 (v17.fst)), (51, .int .i64 (v26.fst)), (52, .int .i64 (v17.snd)), (53, .bool (decide (v26.fst ≤ v17.snd))), (56, .int .i64 (v25.snd)), (57, .bool (decide (v25.snd < 0)))], [(0, .box 39 [.int .i64 (v23.fst), .int .i64 (v23.snd.fst), .int .i64 (v23.snd.snd.fst), .int .i64 (v23.snd.snd.snd.fst), .int .i64 (v23.snd.snd.snd.snd.fst), .int .i64 (v23.snd.snd.snd.snd.snd.fst), .int .i64 (v23.snd.snd.snd.snd.snd.snd.fst), .int .i64 (v23.snd.snd.snd.snd.snd.snd.snd.fst)]), (1, .box 3 [.int .i64 (v23.snd.snd.snd.snd.snd.snd.snd.snd.fst)]), (2, .box 3 [.int .i64 (v23.snd.snd.snd.snd.snd.snd.snd.snd.snd.fst)]), (3, .box 23 [.int .i64 (v23.snd.snd.snd.snd.snd.snd.snd.snd.snd.snd.fst), .int .i64 (v23.snd.snd.snd.snd.snd.snd.snd.snd.snd.snd.snd.fst), .int .i64 (v23.snd.snd.snd.snd.snd.snd.snd.snd.snd.snd.snd.snd)]), (4, .box 101 [.int .i64 (a0), .int .i64 (a1), .int .i64 (a2), .int .i64 (a3), .int .i64 (a4), .int .i64 (a5), .int .i64 (a6), .int .i64 (a7), .int .i64 (a8), .int .i64 (a9), .int .i64 (a10), .int .i64 (a11), .sl (a12) 74 (a13), .sl (a14) 21 (a15), .int .i64 (a16), .int .i64 (a17), .int .i64 (a18), .int .i64 (a19), .int .i64 (a20), .int .i64 (a21), .int .i64 (a22), .int .i64 (a23), .int .i64 (a24), .int .i64 (a25), .int .i64 (a26), .int .i64 (a27), .int .i64 (a28), .int .i64 (a29), .int .i64 (a30)]), (5, .box 125 [.own 8]), (6, .box 3 [.int .i64 (v17.fst)]), (7, .box 3 [.int .i64 (v17.snd)]), (8, .arr true 3 (v26.snd.fst && false) (v28))], 9, [], []⟩) h (fun Q h => ?_) (fun v28 h => ?_)
                · conv => whnf
                  refine XSplit.mk (fun e => ?_) (fun e => ?_)
                  · replace h := XSplit.t h e
                    conv => whnf
                    refine XNeed.mk (XNeed.c h) ?_; replace h := XNeed.x h
                    conv => whnf
                    refine ⟨_, Weak.a ?_, h⟩; (conv => whnf); exact ⟨rfl, rfl, rfl, rfl, rfl⟩
                  · replace h := XSplit.f h e
                    conv => whnf
                    refine XNeed.mk (XNeed.c h) ?_; replace h := XNeed.x h
                    conv => whnf
                    refine ⟨_, Weak.a ?_, h⟩; (conv => whnf); exact ⟨rfl, rfl, rfl, rfl, rfl⟩
                · conv => whnf
                  refine ⟨_, Weak.a ?_, h⟩; (conv => whnf); exact ⟨rfl, rfl, rfl, rfl, rfl⟩
              · replace h := XSplit.f h e
                conv => whnf
                refine ⟨_, ?_, Weak.a ?_, h⟩; exact rfl; (conv => whnf); exact ⟨rfl, rfl, rfl, rfl, rfl⟩
            · conv => whnf
              refine ⟨_, Weak.a ?_, h⟩; (conv => whnf); exact ⟨rfl, rfl, rfl, rfl, rfl⟩
          · conv => whnf
            refine ⟨_, Weak.a ?_, h⟩; (conv => whnf); exact ⟨rfl, rfl, rfl, rfl, rfl⟩
      · conv => whnf
        refine ⟨_, Weak.a ?_, ?_, h⟩; (conv => whnf); exact ⟨rfl, rfl, rfl, rfl, rfl⟩; exact rfl
theorem c_terms_Of {a0 : Int} {a1 : Int} {a2 : Int} {a3 : Int} {a4 : Int} {a5 : Bool} {a6 : Rws} {a7 : Int} {a8 : Int} {a9 : Int} {a10 : Int} {Q : Int × Int × Bool × Rws → Prop} {R : AV → List AB → Prop} (h : (g_terms_Of a0 a1 a2 a3 a4 a5 a6 a7 a8 a9 a10).run Q) (k : ∀ r, Q r → R (.tup [.own 0, .int .i64 (r.fst), .int .i64 (r.snd.fst)]) ([.arr true 148 (r.snd.snd.fst) (r.snd.snd.snd)])) : ACalls Try.prog tab 56 [.agg [.int .i64 (a0), .int .i64 (a1), .int .i64 (a2), .int .i64 (a3), .int .i64 (a4), .sl (a5) 45 (a6), .int .i64 (a7)], .int .i64 (a8), .int .i64 (a9), .int .i64 (a10)] [] R := by
  refine ACalls.out (fun r => .tup [.own 0, .int .i64 (r.fst), .int .i64 (r.snd.fst)]) (fun r => [.arr true 148 (r.snd.snd.fst) (r.snd.snd.snd)]) (Q := Q) (ACalls.introX (mv := mv) tab_ok mixed_ (fn := Try.f56) (by kernel_rfl) rfl (by kernel_rfl) (by kernel_rfl) (leB rfl) ?_) (fun v => by first | exact ⟨rfl, leB rfl⟩ | (cases v <;> exact ⟨rfl, leB rfl⟩)) k
  conv => whnf
  refine ACalls.inn (c_terms_find (W.bindE h) (fun v7 h => ?_)) ⟨rfl, rfl⟩
  conv => whnf
  refine ASeq.go tab_ok mixed_ ?_
  conv => whnf
  refine XSplit.mk (fun e => ?_) (fun e => ?_)
  · replace h := XSplit.t h e
    conv => whnf
    refine ⟨_, Weak.a ?_, ?_, h⟩; (conv => whnf); exact ⟨rfl, rfl, rfl, rfl, rfl⟩; exact rfl
  · replace h := XSplit.f h e
    conv => whnf
    refine ASeq.go tab_ok mixed_ ?_
    conv => whnf
    refine XSplit.mk (fun e => ?_) (fun e => ?_)
    · replace h := XSplit.t h e
      conv => whnf
      refine ⟨_, Weak.a ?_, ?_, h⟩; (conv => whnf); exact ⟨rfl, rfl, rfl, rfl, rfl⟩; exact rfl
    · replace h := XSplit.f h e
      conv => whnf
      refine XNeed.mk (XNeed.c h) ?_; replace h := XNeed.x h
      conv => whnf
      refine ASeq.go tab_ok mixed_ ?_
      conv => whnf
      refine ACalls.inn (c__terms_site__places (W.bindE h) (fun v8 h => ?_)) ⟨rfl, rfl⟩
      conv => whnf
      refine ALoop.ofW tab_ok mixed_ (fun v9 => ⟨[(2, .int .i64 (a9)), (8, .nils), (9, .int .i64 (0)), (10, .int .i64 (0)), (11, .ptr 0 0), (13, .int .i64 (0)), (14, .own 1), (58, .own 2), (59, .int .i64 ((↑(List.length v8.snd) : Int))), (60, .int .i64 (v9.fst))], [(0, .box 101 [.int .i64 (v7.fst), .int .i64 (v7.snd.fst), .int .i64 (v7.snd.snd.fst), .int .i64 (v7.snd.snd.snd.fst), .int .i64 (v7.snd.snd.snd.snd.fst), .int .i64 (v7.snd.snd.snd.snd.snd.fst), .int .i64 (v7.snd.snd.snd.snd.snd.snd.fst), .int .i64 (v7.snd.snd.snd.snd.snd.snd.snd.fst), .int .i64 (v7.snd.snd.snd.snd.snd.snd.snd.snd.fst), .int .i64 (v7.snd.snd.snd.snd.snd.snd.snd.snd.snd.fst), .int .i64 (v7.snd.snd.snd.snd.snd.snd.snd.snd.snd.snd.fst), .int .i64 (v7.snd.snd.snd.snd.snd.snd.snd.snd.snd.snd.snd.fst), .sl (v7.snd.snd.snd.snd.snd.snd.snd.snd.snd.snd.snd.snd.fst) 74 (v7.snd.snd.snd.snd.snd.snd.snd.snd.snd.snd.snd.snd.snd.fst), .sl (v7.snd.snd.snd.snd.snd.snd.snd.snd.snd.snd.snd.snd.snd.snd.fst) 21 (v7.snd.snd.snd.snd.snd.snd.snd.snd.snd.snd.snd.snd.snd.snd.snd.fst), .int .i64 (v7.snd.snd.snd.snd.snd.snd.snd.snd.snd.snd.snd.snd.snd.snd.snd.snd.fst), .int .i64 (v7.snd.snd.snd.snd.snd.snd.snd.snd.snd.snd.snd.snd.snd.snd.snd.snd.snd.fst), .int .i64 (v7.snd.snd.snd.snd.snd.snd.snd.snd.snd.snd.snd.snd.snd.snd.snd.snd.snd.snd.fst), .int .i64 (v7.snd.snd.snd.snd.snd.snd.snd.snd.snd.snd.snd.snd.snd.snd.snd.snd.snd.snd.snd.fst), .int .i64 (v7.snd.snd.snd.snd.snd.snd.snd.snd.snd.snd.snd.snd.snd.snd.snd.snd.snd.snd.snd.snd.fst), .int .i64 (v7.snd.snd.snd.snd.snd.snd.snd.snd.snd.snd.snd.snd.snd.snd.snd.snd.snd.snd.snd.snd.snd.fst), .int .i64 (v7.snd.snd.snd.snd.snd.snd.snd.snd.snd.snd.snd.snd.snd.snd.snd.snd.snd.snd.snd.snd.snd.snd.fst), .int .i64 (v7.snd.snd.snd.snd.snd.snd.snd.snd.snd.snd.snd.snd.snd.snd.snd.snd.snd.snd.snd.snd.snd.snd.snd.fst), .int .i64 (v7.snd.snd.snd.snd.snd.snd.snd.snd.snd.snd.snd.snd.snd.snd.snd.snd.snd.snd.snd.snd.snd.snd.snd.snd.fst), .int .i64 (v7.snd.snd.snd.snd.snd.snd.snd.snd.snd.snd.snd.snd.snd.snd.snd.snd.snd.snd.snd.snd.snd.snd.snd.snd.snd.fst), .int .i64 (v7.snd.snd.snd.snd.snd.snd.snd.snd.snd.snd.snd.snd.snd.snd.snd.snd.snd.snd.snd.snd.snd.snd.snd.snd.snd.snd.fst), .int .i64 (v7.snd.snd.snd.snd.snd.snd.snd.snd.snd.snd.snd.snd.snd.snd.snd.snd.snd.snd.snd.snd.snd.snd.snd.snd.snd.snd.snd.fst), .int .i64 (v7.snd.snd.snd.snd.snd.snd.snd.snd.snd.snd.snd.snd.snd.snd.snd.snd.snd.snd.snd.snd.snd.snd.snd.snd.snd.snd.snd.snd.fst), .int .i64 (v7.snd.snd.snd.snd.snd.snd.snd.snd.snd.snd.snd.snd.snd.snd.snd.snd.snd.snd.snd.snd.snd.snd.snd.snd.snd.snd.snd.snd.snd.fst), .int .i64 (v7.snd.snd.snd.snd.snd.snd.snd.snd.snd.snd.snd.snd.snd.snd.snd.snd.snd.snd.snd.snd.snd.snd.snd.snd.snd.snd.snd.snd.snd.snd.fst)]), (1, .arr true 148 (false) (v9.snd)), (2, .arr true 3 (v8.fst) (v8.snd))], 3, [], []⟩) (fun v10 => (.exit 0, ⟨[(2, .int .i64 (a9)), (8, .nils), (9, .int .i64 (0)), (10, .int .i64 (0)), (11, .ptr 0 0), (13, .int .i64 (0)), (14, .own 1)], [(0, .box 101 [.int .i64 (v7.fst), .int .i64 (v7.snd.fst), .int .i64 (v7.snd.snd.fst), .int .i64 (v7.snd.snd.snd.fst), .int .i64 (v7.snd.snd.snd.snd.fst), .int .i64 (v7.snd.snd.snd.snd.snd.fst), .int .i64 (v7.snd.snd.snd.snd.snd.snd.fst), .int .i64 (v7.snd.snd.snd.snd.snd.snd.snd.fst), .int .i64 (v7.snd.snd.snd.snd.snd.snd.snd.snd.fst), .int .i64 (v7.snd.snd.snd.snd.snd.snd.snd.snd.snd.fst), .int .i64 (v7.snd.snd.snd.snd.snd.snd.snd.snd.snd.snd.fst), .int .i64 (v7.snd.snd.snd.snd.snd.snd.snd.snd.snd.snd.snd.fst), .sl (v7.snd.snd.snd.snd.snd.snd.snd.snd.snd.snd.snd.snd.fst) 74 (v7.snd.snd.snd.snd.snd.snd.snd.snd.snd.snd.snd.snd.snd.fst), .sl (v7.snd.snd.snd.snd.snd.snd.snd.snd.snd.snd.snd.snd.snd.snd.fst) 21 (v7.snd.snd.snd.snd.snd.snd.snd.snd.snd.snd.snd.snd.snd.snd.snd.fst), .int .i64 (v7.snd.snd.snd.snd.snd.snd.snd.snd.snd.snd.snd.snd.snd.snd.snd.snd.fst), .int .i64 (v7.snd.snd.snd.snd.snd.snd.snd.snd.snd.snd.snd.snd.snd.snd.snd.snd.snd.fst), .int .i64 (v7.snd.snd.snd.snd.snd.snd.snd.snd.snd.snd.snd.snd.snd.snd.snd.snd.snd.snd.fst), .int .i64 (v7.snd.snd.snd.snd.snd.snd.snd.snd.snd.snd.snd.snd.snd.snd.snd.snd.snd.snd.snd.fst), .int .i64 (v7.snd.snd.snd.snd.snd.snd.snd.snd.snd.snd.snd.snd.snd.snd.snd.snd.snd.snd.snd.snd.fst), .int .i64 (v7.snd.snd.snd.snd.snd.snd.snd.snd.snd.snd.snd.snd.snd.snd.snd.snd.snd.snd.snd.snd.snd.fst), .int .i64 (v7.snd.snd.snd.snd.snd.snd.snd.snd.snd.snd.snd.snd.snd.snd.snd.snd.snd.snd.snd.snd.snd.snd.fst), .int .i64 (v7.snd.snd.snd.snd.snd.snd.snd.snd.snd.snd.snd.snd.snd.snd.snd.snd.snd.snd.snd.snd.snd.snd.snd.fst), .int .i64 (v7.snd.snd.snd.snd.snd.snd.snd.snd.snd.snd.snd.snd.snd.snd.snd.snd.snd.snd.snd.snd.snd.snd.snd.snd.fst), .int .i64 (v7.snd.snd.snd.snd.snd.snd.snd.snd.snd.snd.snd.snd.snd.snd.snd.snd.snd.snd.snd.snd.snd.snd.snd.snd.snd.fst), .int .i64 (v7.snd.snd.snd.snd.snd.snd.snd.snd.snd.snd.snd.snd.snd.snd.snd.snd.snd.snd.snd.snd.snd.snd.snd.snd.snd.snd.fst), .int .i64 (v7.snd.snd.snd.snd.snd.snd.snd.snd.snd.snd.snd.snd.snd.snd.snd.snd.snd.snd.snd.snd.snd.snd.snd.snd.snd.snd.snd.fst), .int .i64 (v7.snd.snd.snd.snd.snd.snd.snd.snd.snd.snd.snd.snd.snd.snd.snd.snd.snd.snd.snd.snd.snd.snd.snd.snd.snd.snd.snd.snd.fst), .int .i64 (v7.snd.snd.snd.snd.snd.snd.snd.snd.snd.snd.snd.snd.snd.snd.snd.snd.snd.snd.snd.snd.snd.snd.snd.snd.snd.snd.snd.snd.snd.fst), .int .i64 (v7.snd.snd.snd.snd.snd.snd.snd.snd.snd.snd.snd.snd.snd.snd.snd.snd.snd.snd.snd.snd.snd.snd.snd.snd.snd.snd.snd.snd.snd.snd.fst)]), (1, .arr true 148 (false) (v10))], 2, [], []⟩)) (W.bindE h) (Weak.a ?_) (fun v9 J_ Q h => ?_) (fun v10 h => ?_)
      · conv => whnf
        exact ⟨rfl, rfl, rfl, rfl, rfl⟩
      · conv => whnf
        refine ASeq.go tab_ok mixed_ ?_
        conv => whnf
        refine XSplit.mk (fun e => ?_) (fun e => ?_)
        · replace h := XSplit.t h e
          conv => whnf
          refine ASeq.go tab_ok mixed_ ?_
          conv => whnf
          refine XNeed.mk (XNeed.c h) ?_; replace h := XNeed.x h
          conv => whnf
          refine XNeed.mk (XNeed.c h) ?_; replace h := XNeed.x h
          conv => whnf
          refine ⟨_, Weak.a ?_, h⟩; (conv => whnf); exact ⟨rfl, rfl, rfl, rfl, rfl⟩
        · replace h := XSplit.f h e
          conv => whnf
          refine ⟨_, ?_, Weak.a ?_, h⟩; exact rfl; (conv => whnf); exact ⟨rfl, rfl, rfl, rfl, rfl⟩
      · conv => whnf
        refine ASeq.joinW tab_ok mixed_ (fun v11 => ⟨[(8, .nils), (9, .int .i64 (0)), (10, .int .i64 (0)), (13, .int .i64 (v11.fst)), (14, .own 0)], [(0, .arr true 148 (false) (v11.snd))], 1, [], []⟩) h (fun Q h => ?_) (fun v11 h => ?_)
        · conv => whnf
          refine XSplit.mk (fun e => ?_) (fun e => ?_)
          · replace h := XSplit.t h e
            conv => whnf
            refine XNeed.mk (XNeed.c h) ?_; replace h := XNeed.x h
            conv => whnf
            refine XNeed.mk (XNeed.c h) ?_; replace h := XNeed.x h
            conv => whnf
            refine ALoop.ofW tab_ok mixed_ (fun v12 => ⟨[(8, .nils), (9, .int .i64 (0)), (10, .int .i64 (0)), (13, .int .i64 (IntKind.i64.wrap (ri v7.snd.snd.snd.snd.snd.snd.snd.snd.snd.snd.snd.snd.snd.snd.snd.fst (IntKind.i64.wrap (a9 - 1)).toNat 0))), (14, .own 0), (95, .sl (v7.snd.snd.snd.snd.snd.snd.snd.snd.snd.snd.snd.snd.fst) 74 (List.take (IntKind.i64.wrap (a9 * v7.snd.snd.snd.snd.snd.snd.snd.snd.snd.snd.snd.snd.snd.snd.snd.snd.snd.snd.snd.snd.snd.snd.snd.snd.snd.snd.snd.snd.snd.snd.fst) - IntKind.i64.wrap (IntKind.i64.wrap (a9 - 1) * v7.snd.snd.snd.snd.snd.snd.snd.snd.snd.snd.snd.snd.snd.snd.snd.snd.snd.snd.snd.snd.snd.snd.snd.snd.snd.snd.snd.snd.snd.snd.fst)).toNat (List.drop (IntKind.i64.wrap (IntKind.i64.wrap (a9 - 1) * v7.snd.snd.snd.snd.snd.snd.snd.snd.snd.snd.snd.snd.snd.snd.snd.snd.snd.snd.snd.snd.snd.snd.snd.snd.snd.snd.snd.snd.snd.snd.fst)).toNat v7.snd.snd.snd.snd.snd.snd.snd.snd.snd.snd.snd.snd.snd.fst))), (96, .int .i64 ((↑(List.take (IntKind.i64.wrap (a9 * v7.snd.snd.snd.snd.snd.snd.snd.snd.snd.snd.snd.snd.snd.snd.snd.snd.snd.snd.snd.snd.snd.snd.snd.snd.snd.snd.snd.snd.snd.snd.fst) - IntKind.i64.wrap (IntKind.i64.wrap (a9 - 1) * v7.snd.snd.snd.snd.snd.snd.snd.snd.snd.snd.snd.snd.snd.snd.snd.snd.snd.snd.snd.snd.snd.snd.snd.snd.snd.snd.snd.snd.snd.snd.fst)).toNat (List.drop (IntKind.i64.wrap (IntKind.i64.wrap (a9 - 1) * v7.snd.snd.snd.snd.snd.snd.snd.snd.snd.snd.snd.snd.snd.snd.snd.snd.snd.snd.snd.snd.snd.snd.snd.snd.snd.snd.snd.snd.snd.snd.fst)).toNat v7.snd.snd.snd.snd.snd.snd.snd.snd.snd.snd.snd.snd.snd.fst)).length : Int))), (97, .int .i64 (v12.fst))], [(0, .arr true 148 (false) (v12.snd))], 1, [], []⟩) (fun v13 => (.exit 2, ⟨[(8, .nils), (9, .int .i64 (0)), (10, .int .i64 (0)), (13, .int .i64 (IntKind.i64.wrap (ri v7.snd.snd.snd.snd.snd.snd.snd.snd.snd.snd.snd.snd.snd.snd.snd.fst (IntKind.i64.wrap (a9 - 1)).toNat 0))), (14, .own 0)], [(0, .arr true 148 (false) (v13))], 1, [], []⟩)) (W.bindE h) (Weak.a ?_) (fun v12 J_ Q h => ?_) (fun v13 h => ?_)
            · conv => whnf
              exact ⟨rfl, rfl, rfl, rfl, rfl⟩
            · conv => whnf
              refine ASeq.go tab_ok mixed_ ?_
              conv => whnf
              refine XSplit.mk (fun e => ?_) (fun e => ?_)
              · replace h := XSplit.t h e
                conv => whnf
                refine ASeq.go tab_ok mixed_ ?_
                conv => whnf
                refine XNeed.mk (XNeed.c h) ?_; replace h := XNeed.x h
                conv => whnf
                refine XNeed.mk (XNeed.c h) ?_; replace h := XNeed.x h
                conv => whnf
                refine ⟨_, Weak.a ?_, h⟩; (conv => whnf); exact ⟨rfl, rfl, rfl, rfl, rfl⟩
              · replace h := XSplit.f h e
                conv => whnf
                refine ⟨_, ?_, Weak.a ?_, h⟩; exact rfl; (conv => whnf); exact ⟨rfl, rfl, rfl, rfl, rfl⟩
            · conv => whnf
              refine ⟨_, Weak.a ?_, h⟩; (conv => whnf); exact ⟨rfl, rfl, rfl, rfl, rfl⟩
          · replace h := XSplit.f h e
            conv => whnf
            refine ⟨_, Weak.a ?_, h⟩; (conv => whnf); exact ⟨rfl, rfl, rfl, rfl, rfl⟩
        · conv => whnf
          refine ⟨_, Weak.a ?_, ?_, h⟩; (conv => whnf); exact ⟨rfl, rfl, rfl, rfl, rfl⟩; exact rfl
theorem c_bound_ask {a0 : Int} {a1 : Int} {a2 : Int} {a3 : Int} {a4 : Int} {a5 : Bool} {a6 : Rws} {a7 : Int} {a8 : Int} {a9 : Int} {a10 : Int} {a11 : Int} {Q : Int × Int → Prop} {R : AV → List AB → Prop} (h : (g_bound_ask a0 a1 a2 a3 a4 a5 a6 a7 a8 a9 a10 a11).run Q) (k : ∀ r, Q r → R (.tup [.int .i64 (r.fst), .int .i64 (r.snd)]) ([])) : ACalls Try.prog tab 69 [.agg [.int .i64 (a0), .int .i64 (a1), .int .i64 (a2), .int .i64 (a3), .int .i64 (a4), .sl (a5) 45 (a6), .int .i64 (a7)], .int .i64 (a8), .int .i64 (a9), .agg [.int .i64 (a10), .int .i64 (a11)]] [] R := by
  refine ACalls.out (fun r => .tup [.int .i64 (r.fst), .int .i64 (r.snd)]) (fun r => []) (Q := Q) (ACalls.introX (mv := mv) tab_ok mixed_ (fn := Try.f69) (by kernel_rfl) rfl (by kernel_rfl) (by kernel_rfl) (leB rfl) ?_) (fun v => by first | exact ⟨rfl, leB rfl⟩ | (cases v <;> exact ⟨rfl, leB rfl⟩)) k
  conv => whnf
  refine ACalls.inn (c_terms_Of (W.bindE h) (fun v3 h => ?_)) ⟨rfl, rfl⟩
  conv => whnf
  refine ASeq.go tab_ok mixed_ ?_
  conv => whnf
  refine ASeq.joinW tab_ok mixed_ (fun v4 => ⟨[(8, .int .i64 (0)), (9, .int .i64 (0)), (11, .int .i64 (v3.fst)), (12, .int .i64 (v3.snd.fst)), (28, .bool (v4))], [], 0, [], []⟩) h (fun Q h => ?_) (fun v4 h => ?_)
  · conv => whnf
    refine XSplit.mk (fun e => ?_) (fun e => ?_)
    · replace h := XSplit.t h e
      conv => whnf
      refine ACalls.inn (c_span_Holds (W.bindE h) (fun v5 h => ?_)) ⟨rfl, rfl⟩
      conv => whnf
      refine ⟨_, Weak.a ?_, h⟩; (conv => whnf); exact ⟨rfl, rfl, rfl, rfl, rfl⟩
    · replace h := XSplit.f h e
      conv => whnf
      refine ⟨_, Weak.a ?_, h⟩; (conv => whnf); exact ⟨rfl, rfl, rfl, rfl, rfl⟩
  · conv => whnf
    refine XSplit.mk (fun e => ?_) (fun e => ?_)
    · replace h := XSplit.t h e
      conv => whnf
      refine ⟨_, Weak.a ?_, ?_, h⟩; (conv => whnf); exact ⟨rfl, rfl, rfl, rfl, rfl⟩; exact rfl
    · replace h := XSplit.f h e
      conv => whnf
      refine ⟨_, Weak.a ?_, ?_, h⟩; (conv => whnf); exact ⟨rfl, rfl, rfl, rfl, rfl⟩; exact rfl
theorem c_terms_Positions {a0 : Int} {a1 : Int} {a2 : Int} {a3 : Int} {a4 : Int} {a5 : Bool} {a6 : Rws} {a7 : Int} {a8 : Int} {Q : Int × Int → Prop} {R : AV → List AB → Prop} (h : (g_terms_Positions a0 a1 a2 a3 a4 a5 a6 a7 a8).run Q) (k : ∀ r, Q r → R (.tup [.int .i64 (r.fst), .int .i64 (r.snd)]) ([])) : ACalls Try.prog tab 55 [.agg [.int .i64 (a0), .int .i64 (a1), .int .i64 (a2), .int .i64 (a3), .int .i64 (a4), .sl (a5) 45 (a6), .int .i64 (a7)], .int .i64 (a8)] [] R := by
  refine ACalls.out (fun r => .tup [.int .i64 (r.fst), .int .i64 (r.snd)]) (fun r => []) (Q := Q) (ACalls.introX (mv := mv) tab_ok mixed_ (fn := Try.f55) (by kernel_rfl) rfl (by kernel_rfl) (by kernel_rfl) (leB rfl) ?_) (fun v => by first | exact ⟨rfl, leB rfl⟩ | (cases v <;> exact ⟨rfl, leB rfl⟩)) k
  conv => whnf
  refine ACalls.inn (c_terms_find (W.bindE h) (fun v1 h => ?_)) ⟨rfl, rfl⟩
  conv => whnf
  refine ⟨_, Weak.a ?_, ?_, h⟩; (conv => whnf); exact ⟨rfl, rfl, rfl, rfl, rfl⟩; exact rfl
theorem c_bound_rows {a0 : Int} {a1 : Int} {a2 : Int} {a3 : Int} {a4 : Int} {a5 : Bool} {a6 : Rws} {a7 : Int} {a8 : Int} {a9 : Int} {a10 : Int} {a11 : Int} {Q : Int × Int × Int × Int × Int × Int × Bool × Rws × Int × Int × Int × Int × Int × Int → Prop} {R : AV → List AB → Prop} (h : (g_bound_rows a0 a1 a2 a3 a4 a5 a6 a7 a8 a9 a10 a11).run Q) (k : ∀ r, Q r → R (.fn 77 [] [.ptr 0 0, .ptr 1 0, .ptr 2 0, .ptr 3 0, .ptr 4 0, .ptr 5 0]) ([.box 3 [.int .i64 (r.fst)], .box 26 [.int .i64 (r.snd.fst), .int .i64 (r.snd.snd.fst), .int .i64 (r.snd.snd.snd.fst), .int .i64 (r.snd.snd.snd.snd.fst), .int .i64 (r.snd.snd.snd.snd.snd.fst), .sl (r.snd.snd.snd.snd.snd.snd.fst) 45 (r.snd.snd.snd.snd.snd.snd.snd.fst), .int .i64 (r.snd.snd.snd.snd.snd.snd.snd.snd.fst)], .box 3 [.int .i64 (r.snd.snd.snd.snd.snd.snd.snd.snd.snd.fst)], .box 3 [.int .i64 (r.snd.snd.snd.snd.snd.snd.snd.snd.snd.snd.fst)], .box 31 [.int .i64 (r.snd.snd.snd.snd.snd.snd.snd.snd.snd.snd.snd.fst), .int .i64 (r.snd.snd.snd.snd.snd.snd.snd.snd.snd.snd.snd.snd.fst)], .box 2 [.int .i64 (r.snd.snd.snd.snd.snd.snd.snd.snd.snd.snd.snd.snd.snd)]])) : ACalls Try.prog tab 70 [.agg [.int .i64 (a0), .int .i64 (a1), .int .i64 (a2), .int .i64 (a3), .int .i64 (a4), .sl (a5) 45 (a6), .int .i64 (a7)], .int .i64 (a8), .int .i64 (a9), .agg [.int .i64 (a10), .int .i64 (a11)]] [] R := by
  refine ACalls.out (fun r => .fn 77 [] [.ptr 0 0, .ptr 1 0, .ptr 2 0, .ptr 3 0, .ptr 4 0, .ptr 5 0]) (fun r => [.box 3 [.int .i64 (r.fst)], .box 26 [.int .i64 (r.snd.fst), .int .i64 (r.snd.snd.fst), .int .i64 (r.snd.snd.snd.fst), .int .i64 (r.snd.snd.snd.snd.fst), .int .i64 (r.snd.snd.snd.snd.snd.fst), .sl (r.snd.snd.snd.snd.snd.snd.fst) 45 (r.snd.snd.snd.snd.snd.snd.snd.fst), .int .i64 (r.snd.snd.snd.snd.snd.snd.snd.snd.fst)], .box 3 [.int .i64 (r.snd.snd.snd.snd.snd.snd.snd.snd.snd.fst)], .box 3 [.int .i64 (r.snd.snd.snd.snd.snd.snd.snd.snd.snd.snd.fst)], .box 31 [.int .i64 (r.snd.snd.snd.snd.snd.snd.snd.snd.snd.snd.snd.fst), .int .i64 (r.snd.snd.snd.snd.snd.snd.snd.snd.snd.snd.snd.snd.fst)], .box 2 [.int .i64 (r.snd.snd.snd.snd.snd.snd.snd.snd.snd.snd.snd.snd.snd)]]) (Q := Q) (ACalls.introX (mv := mv) tab_ok mixed_ (fn := Try.f70) (by kernel_rfl) rfl (by kernel_rfl) (by kernel_rfl) (leB rfl) ?_) (fun v => by first | exact ⟨rfl, leB rfl⟩ | (cases v <;> exact ⟨rfl, leB rfl⟩)) k
  conv => whnf
  refine ACalls.inn (c_terms_Positions (W.bindE h) (fun v1 h => ?_)) ⟨rfl, rfl⟩
  conv => whnf
  refine XNeed.mk (XNeed.c h) ?_; replace h := XNeed.x h
  conv => whnf
  refine ⟨_, Weak.a ?_, ?_, h⟩; (conv => whnf); exact ⟨rfl, rfl, rfl, rfl, rfl⟩; exact rfl
theorem c_math_bits_Mul64 {a0 : Int} {a1 : Int} {Q : Int × Int → Prop} {R : AV → List AB → Prop} (h : (g_math_bits_Mul64 a0 a1).run Q) (k : ∀ r, Q r → R (.tup [.int .u64 (r.fst), .int .u64 (r.snd)]) ([])) : ACalls Try.prog tab 47 [.int .u64 (a0), .int .u64 (a1)] [] R := by
  refine ACalls.out (fun r => .tup [.int .u64 (r.fst), .int .u64 (r.snd)]) (fun r => []) (Q := Q) (ACalls.introX (mv := mv) tab_ok mixed_ (fn := Try.f47) (by kernel_rfl) rfl (by kernel_rfl) (by kernel_rfl) (leB rfl) ?_) (fun v => by first | exact ⟨rfl, leB rfl⟩ | (cases v <;> exact ⟨rfl, leB rfl⟩)) k
  conv => whnf
  refine XNeed.mk (of_decide_eq_true rfl) ?_
  conv => whnf
  refine XNeed.mk (of_decide_eq_true rfl) ?_
  conv => whnf
  refine XNeed.mk (of_decide_eq_true rfl) ?_
  conv => whnf
  refine XNeed.mk (of_decide_eq_true rfl) ?_
  conv => whnf
  refine XNeed.mk (of_decide_eq_true rfl) ?_
  conv => whnf
  refine ⟨_, Weak.a ?_, ?_, h⟩; (conv => whnf); exact ⟨rfl, rfl, rfl, rfl, rfl⟩; exact rfl
theorem c_num_Mul {a0 : Int} {a1 : Int} {Q : Int × Int → Prop} {R : AV → List AB → Prop} (h : (g_num_Mul a0 a1).run Q) (k : ∀ r, Q r → R (.tup [.int .i64 (r.fst), .int .i64 (r.snd)]) ([])) : ACalls Try.prog tab 81 [.int .i64 (a0), .int .i64 (a1)] [] R := by
  refine ACalls.out (fun r => .tup [.int .i64 (r.fst), .int .i64 (r.snd)]) (fun r => []) (Q := Q) (ACalls.introX (mv := mv) tab_ok mixed_ (fn := Try.f81) (by kernel_rfl) rfl (by kernel_rfl) (by kernel_rfl) (leB rfl) ?_) (fun v => by first | exact ⟨rfl, leB rfl⟩ | (cases v <;> exact ⟨rfl, leB rfl⟩)) k
  conv => whnf
  refine ACalls.inn (c_math_bits_Mul64 (W.bindE h) (fun v3 h => ?_)) ⟨rfl, rfl⟩
  conv => whnf
  refine ASeq.joinW tab_ok mixed_ (fun v4 => ⟨[(0, .int .i64 (a0)), (1, .int .i64 (a1)), (4, .int .i64 (0)), (5, .int .i64 (0)), (7, .int .u64 (v3.snd)), (8, .int .i64 (v4))], [], 0, [], []⟩) h (fun Q h => ?_) (fun v4 h => ?_)
  · conv => whnf
    refine XSplit.mk (fun e => ?_) (fun e => ?_)
    · replace h := XSplit.t h e
      conv => whnf
      refine ⟨_, Weak.a ?_, h⟩; (conv => whnf); exact ⟨rfl, rfl, rfl, rfl, rfl⟩
    · replace h := XSplit.f h e
      conv => whnf
      refine ⟨_, Weak.a ?_, h⟩; (conv => whnf); exact ⟨rfl, rfl, rfl, rfl, rfl⟩
  · conv => whnf
    refine ASeq.joinW tab_ok mixed_ (fun v5 => ⟨[(4, .int .i64 (0)), (5, .int .i64 (0)), (7, .int .u64 (v3.snd)), (8, .int .i64 (v5))], [], 0, [], []⟩) h (fun Q h => ?_) (fun v5 h => ?_)
    · conv => whnf
      refine XSplit.mk (fun e => ?_) (fun e => ?_)
      · replace h := XSplit.t h e
        conv => whnf
        refine ⟨_, Weak.a ?_, h⟩; (conv => whnf); exact ⟨rfl, rfl, rfl, rfl, rfl⟩
      · replace h := XSplit.f h e
        conv => whnf
        refine ⟨_, Weak.a ?_, h⟩; (conv => whnf); exact ⟨rfl, rfl, rfl, rfl, rfl⟩
    · conv => whnf
      refine ASeq.go tab_ok mixed_ ?_
      conv => whnf
      refine XNeed.mk (of_decide_eq_true rfl) ?_
      conv => whnf
      refine XSplit.mk (fun e => ?_) (fun e => ?_)
      · replace h := XSplit.t h e
        conv => whnf
        refine ⟨_, Weak.a ?_, ?_, h⟩; (conv => whnf); exact ⟨rfl, rfl, rfl, rfl, rfl⟩; exact rfl
      · replace h := XSplit.f h e
        conv => whnf
        refine ⟨_, Weak.a ?_, ?_, h⟩; (conv => whnf); exact ⟨rfl, rfl, rfl, rfl, rfl⟩; exact rfl
theorem c_span_pair {a0 : Int} {a1 : Int} {a2 : Int} {a3 : Int} {Q : Int × Int × Int → Prop} {R : AV → List AB → Prop} (h : (g_span_pair a0 a1 a2 a3).run Q) (k : ∀ r, Q r → R (.tup [.agg [.int .i64 (r.fst), .int .i64 (r.snd.fst)], .int .i64 (r.snd.snd)]) ([])) : ACalls Try.prog tab 44 [.int .i64 (a0), .int .i64 (a1), .int .i64 (a2), .int .i64 (a3)] [] R := by
  refine ACalls.out (fun r => .tup [.agg [.int .i64 (r.fst), .int .i64 (r.snd.fst)], .int .i64 (r.snd.snd)]) (fun r => []) (Q := Q) (ACalls.introX (mv := mv) tab_ok mixed_ (fn := Try.f44) (by kernel_rfl) rfl (by kernel_rfl) (by kernel_rfl) (leB rfl) ?_) (fun v => by first | exact ⟨rfl, leB rfl⟩ | (cases v <;> exact ⟨rfl, leB rfl⟩)) k
  conv => whnf
  refine ASeq.go tab_ok mixed_ ?_
  conv => whnf
  refine XSplit.mk (fun e => ?_) (fun e => ?_)
  · replace h := XSplit.t h e
    conv => whnf
    refine ⟨_, Weak.a ?_, ?_, h⟩; (conv => whnf); exact ⟨rfl, rfl, rfl, rfl, rfl⟩; exact rfl
  · replace h := XSplit.f h e
    conv => whnf
    refine ASeq.go tab_ok mixed_ ?_
    conv => whnf
    refine XSplit.mk (fun e => ?_) (fun e => ?_)
    · replace h := XSplit.t h e
      conv => whnf
      refine ⟨_, Weak.a ?_, ?_, h⟩; (conv => whnf); exact ⟨rfl, rfl, rfl, rfl, rfl⟩; exact rfl
    · replace h := XSplit.f h e
      conv => whnf
      refine ⟨_, Weak.a ?_, ?_, h⟩; (conv => whnf); exact ⟨rfl, rfl, rfl, rfl, rfl⟩; exact rfl
theorem c_span_Times {a0 : Int} {a1 : Int} {a2 : Int} {Q : Int × Int × Int → Prop} {R : AV → List AB → Prop} (h : (g_span_Times a0 a1 a2).run Q) (k : ∀ r, Q r → R (.tup [.agg [.int .i64 (r.fst), .int .i64 (r.snd.fst)], .int .i64 (r.snd.snd)]) ([])) : ACalls Try.prog tab 78 [.agg [.int .i64 (a0), .int .i64 (a1)], .int .i64 (a2)] [] R := by
  refine ACalls.out (fun r => .tup [.agg [.int .i64 (r.fst), .int .i64 (r.snd.fst)], .int .i64 (r.snd.snd)]) (fun r => []) (Q := Q) (ACalls.introX (mv := mv) tab_ok mixed_ (fn := Try.f78) (by kernel_rfl) rfl (by kernel_rfl) (by kernel_rfl) (leB rfl) ?_) (fun v => by first | exact ⟨rfl, leB rfl⟩ | (cases v <;> exact ⟨rfl, leB rfl⟩)) k
  conv => whnf
  refine ASeq.go tab_ok mixed_ ?_
  conv => whnf
  refine ACalls.inn (c_span_Valid (W.bindE h) (fun v5 h => ?_)) ⟨rfl, rfl⟩
  conv => whnf
  refine XSplit.mk (fun e => ?_) (fun e => ?_)
  · replace h := XSplit.t h e
    conv => whnf
    refine ⟨_, Weak.a ?_, ?_, h⟩; (conv => whnf); exact ⟨rfl, rfl, rfl, rfl, rfl⟩; exact rfl
  · replace h := XSplit.f h e
    conv => whnf
    refine ASeq.joinW tab_ok mixed_ (fun v6 => ⟨[(1, .int .i64 (a2)), (2, .ptr 0 0), (4, .ptr 1 0), (5, .int .i64 (0))], [(0, .box 31 [.int .i64 (v6.fst), .int .i64 (v6.snd)]), (1, .box 31 [.int .i64 (0), .int .i64 (0)])], 2, [], []⟩) h (fun Q h => ?_) (fun v6 h => ?_)
    · conv => whnf
      refine XSplit.mk (fun e => ?_) (fun e => ?_)
      · replace h := XSplit.t h e
        conv => whnf
        refine ⟨_, Weak.a ?_, h⟩; (conv => whnf); exact ⟨rfl, rfl, rfl, rfl, rfl⟩
      · replace h := XSplit.f h e
        conv => whnf
        refine ⟨_, Weak.a ?_, h⟩; (conv => whnf); exact ⟨rfl, rfl, rfl, rfl, rfl⟩
    · conv => whnf
      refine ACalls.inn (c_num_Mul (W.bindE h) (fun v7 h => ?_)) ⟨rfl, rfl⟩
      conv => whnf
      refine ACalls.inn (c_num_Mul (W.bindE h) (fun v8 h => ?_)) ⟨rfl, rfl⟩
      conv => whnf
      refine ACalls.inn (c_span_pair (W.bindE h) (fun v9 h => ?_)) ⟨rfl, rfl⟩
      conv => whnf
      refine ⟨_, Weak.a ?_, ?_, h⟩; (conv => whnf); exact ⟨rfl, rfl, rfl, rfl, rfl⟩; exact rfl
theorem q_bound_rows_1 {a0 : Int} {a1 : Int} {a2 : Int} {a3 : Int} {a4 : Int} {a5 : Int} {a6 : Bool} {a7 : Rws} {a8 : Int} {a9 : Int} {a10 : Int} {a11 : Int} {a12 : Int} {a13 : Int} : XS Try.prog tab mv [itPre (bodyC Try.f77)] ⟨[(1, .rel 3 ([[I a0]]) (0) 0), (2, .rel 26 ([[I a1, I a2, I a3, I a4, I a5, AV.sl a6 0 a7, I a8]]) (0) 0), (3, .rel 3 ([[I a9]]) (0) 0), (4, .rel 3 ([[I a10]]) (0) 0), (5, .rel 31 ([[I a11, I a12]]) (0) 0), (6, .rel 2 ([[I a13]]) (0) 0)], [], 0, [], []⟩ (fun s => getE s.env 16 = .int .i64 (g_bound_rows_1_n a0 a1 a2 a3 a4 a5 a6 a7 a8 a9 a10 a11 a12 a13) ∧ getE s.env 17 = .int .i64 0) := by
  conv => whnf
  exact ⟨rfl, rfl⟩
theorem p_bound_rows_1 {i : Int} {a0 : Int} {a1 : Int} {a2 : Int} {a3 : Int} {a4 : Int} {a5 : Int} {a6 : Bool} {a7 : Rws} {a8 : Int} {a9 : Int} {a10 : Int} {a11 : Int} {a12 : Int} {a13 : Int} {Q : Rws → Prop} (h : (g_bound_rows_1 i a0 a1 a2 a3 a4 a5 a6 a7 a8 a9 a10 a11 a12 a13).run Q) : XS Try.prog tab mv (seqTake 4 (itBlk (bodyC Try.f77))) ⟨[(17, I i), (1, .rel 3 ([[I a0]]) (0) 0), (2, .rel 26 ([[I a1, I a2, I a3, I a4, I a5, AV.sl a6 0 a7, I a8]]) (0) 0), (3, .rel 3 ([[I a9]]) (0) 0), (4, .rel 3 ([[I a10]]) (0) 0), (5, .rel 31 ([[I a11, I a12]]) (0) 0), (6, .rel 2 ([[I a13]]) (0) 0)], [], 0, [], []⟩ (fun s => ∃ x, Q x ∧ all2 (GiveS tab s) [12] ((fun x : Rws => [.sl false 31 x]) x)) := by
  conv => whnf
  refine ACalls.inn (c_terms_Of (W.bindE h) (fun v5 h => ?_)) ⟨rfl, rfl⟩
  conv => whnf
  refine XNeed.mk (XNeed.c h) ?_; replace h := XNeed.x h
  conv => whnf
  refine ALoop.ofW tab_ok mixed_ (fun v6 => ⟨[(5, .rel 31 ([[I a11, I a12]]) (0) 0), (6, .rel 2 ([[I a13]]) (0) 0), (12, .own 0), (32, .own 1), (33, .int .i64 ((↑(List.length v5.snd.snd.snd) : Int))), (34, .int .i64 (v6.fst))], [(0, .arr true 31 (false) (v6.snd)), (1, .arr true 148 (v5.snd.snd.fst) (v5.snd.snd.snd))], 2, [], []⟩) (fun v7 => (.exit 2, ⟨[(12, .own 0)], [(0, .arr true 31 (false) (v7))], 1, [], []⟩)) (W.bindE h) (Weak.a ?_) (fun v6 J_ Q h => ?_) (fun v7 h => ?_)
  · conv => whnf
    exact ⟨rfl, rfl, rfl, rfl, rfl⟩
  · conv => whnf
    refine ASeq.go tab_ok mixed_ ?_
    conv => whnf
    refine XSplit.mk (fun e => ?_) (fun e => ?_)
    · replace h := XSplit.t h e
      conv => whnf
      refine ASeq.go tab_ok mixed_ ?_
      conv => whnf
      refine XNeed.mk (XNeed.c h) ?_; replace h := XNeed.x h
      conv => whnf
      refine ASeq.joinW tab_ok mixed_ (fun v8 => ⟨[(5, .rel 31 ([[I a11, I a12]]) (0) 0), (6, .rel 2 ([[I a13]]) (0) 0), (12, .own 0), (13, .int .i64 (v6.fst)), (14, .ptr 1 0), (15, .ptr 2 0), (32, .own 3), (33, .int .i64 ((↑(List.length v5.snd.snd.snd) : Int))), (34, .int .i64 (v6.fst)), (35, .bool (decide (v6.fst < (↑(List.length v5.snd.snd.snd) : Int)))), (36, .int .i64 (v6.fst)), (37, .elt 3 (v6.fst.toNat) 0), (38, .agg [.int .i64 (ri v5.snd.snd.snd v6.fst.toNat 0), .int .i64 (ri v5.snd.snd.snd v6.fst.toNat 1)]), (39, .agg [.int .i64 (a11), .int .i64 (a12)]), (40, .ptr 1 1), (41, .int .i64 (ri v5.snd.snd.snd v6.fst.toNat 1)), (42, .bool (decide (ri v5.snd.snd.snd v6.fst.toNat 1 < 0)))], [(0, .arr true 31 (false) (v6.snd)), (1, .box 148 [.int .i64 (ri v5.snd.snd.snd v6.fst.toNat 0), .int .i64 (ri v5.snd.snd.snd v6.fst.toNat 1)]), (2, .box 31 [.int .i64 (v8.fst), .int .i64 (v8.snd)]), (3, .arr true 148 (v5.snd.snd.fst) (v5.snd.snd.snd))], 4, [], []⟩) h (fun Q h => ?_) (fun v8 h => ?_)
      · conv => whnf
        refine XSplit.mk (fun e => ?_) (fun e => ?_)
        · replace h := XSplit.t h e
          conv => whnf
          refine ⟨_, Weak.a ?_, h⟩; (conv => whnf); exact ⟨rfl, rfl, rfl, rfl, rfl⟩
        · replace h := XSplit.f h e
          conv => whnf
          refine ⟨_, Weak.a ?_, h⟩; (conv => whnf); exact ⟨rfl, rfl, rfl, rfl, rfl⟩
      · conv => whnf
        refine ACalls.inn (c_span_Times (W.bindE h) (fun v9 h => ?_)) ⟨rfl, rfl⟩
        conv => whnf
        refine XNeed.mk (XNeed.c h) ?_; replace h := XNeed.x h
        conv => whnf
        refine ⟨_, Weak.a ?_, h⟩; (conv => whnf); exact ⟨rfl, rfl, rfl, rfl, rfl⟩
    · replace h := XSplit.f h e
      conv => whnf
      refine ⟨_, ?_, Weak.a ?_, h⟩; exact rfl; (conv => whnf); exact ⟨rfl, rfl, rfl, rfl, rfl⟩
  · conv => whnf
    exact ⟨_, h, (And.intro (Or.inr ⟨_, _, _, _, _, rfl, rfl, rfl, rfl, rfl⟩) trivial)⟩
theorem it_bound_rows_1 {a0 : Int} {a1 : Int} {a2 : Int} {a3 : Int} {a4 : Int} {a5 : Int} {a6 : Bool} {a7 : Rws} {a8 : Int} {a9 : Int} {a10 : Int} {a11 : Int} {a12 : Int} {a13 : Int} (hN : 0 ≤ g_bound_rows_1_n a0 a1 a2 a3 a4 a5 a6 a7 a8 a9 a10 a11 a12 a13 ∧ g_bound_rows_1_n a0 a1 a2 a3 a4 a5 a6 a7 a8 a9 a10 a11 a12 a13 ≤ 9223372036854775807) : AIter Try.prog tab 77 [[.int .i64 (a0)], [.int .i64 (a1), .int .i64 (a2), .int .i64 (a3), .int .i64 (a4), .int .i64 (a5), .sl (a6) 45 (a7), .int .i64 (a8)], [.int .i64 (a9)], [.int .i64 (a10)], [.int .i64 (a11), .int .i64 (a12)], [.int .i64 (a13)]] (fun x : Rws => [.sl false 31 x]) ((List.range (g_bound_rows_1_n a0 a1 a2 a3 a4 a5 a6 a7 a8 a9 a10 a11 a12 a13).toNat).map fun (k : Nat) => g_bound_rows_1 (k : Int) a0 a1 a2 a3 a4 a5 a6 a7 a8 a9 a10 a11 a12 a13) :=
  AIter.count (mv := mv) tab_ok mixed_ (fn := Try.f77) (n := 62) (k := 6) (ti := 17) (tn := 16) (tc := 18) (tN := 60) (b0 := 0) (b1 := 1) (args := [12]) (wr := [57, 58, 59, 60]) (rels := [(3, [.int .i64 (a0)]), (26, [.int .i64 (a1), .int .i64 (a2), .int .i64 (a3), .int .i64 (a4), .int .i64 (a5), .sl (a6) 0 (a7), .int .i64 (a8)]), (3, [.int .i64 (a9)]), (3, [.int .i64 (a10)]), (31, [.int .i64 (a11), .int .i64 (a12)]), (2, [.int .i64 (a13)])]) (N := g_bound_rows_1_n a0 a1 a2 a3 a4 a5 a6 a7 a8 a9 a10 a11 a12 a13) (pre := itPre (bodyC Try.f77)) (R1 := itR1 (bodyC Try.f77)) (Y := itY 4 (bodyC Try.f77)) (INC := itInc (bodyC Try.f77)) (ps := seqTake 4 (itBlk (bodyC Try.f77))) (em := (fun x : Rws => [.sl false 31 x])) (row := fun (k : Nat) => g_bound_rows_1 (k : Int) a0 a1 a2 a3 a4 a5 a6 a7 a8 a9 a10 a11 a12 a13) (by kernel_rfl) (by kernel_rfl) rfl rfl (by kernel_rfl) (And.intro ⟨_, rfl, leB rfl, rfl⟩ (And.intro ⟨_, rfl, leB rfl, rfl⟩ (And.intro ⟨_, rfl, leB rfl, rfl⟩ (And.intro ⟨_, rfl, leB rfl, rfl⟩ (And.intro ⟨_, rfl, leB rfl, rfl⟩ (And.intro ⟨_, rfl, leB rfl, rfl⟩ trivial)))))) rfl hN.1
    ⟨leB rfl, by decide, by decide, by decide +kernel, by decide +kernel, by decide +kernel, by decide +kernel, YReg.one (tA := 57) (tB := 58) (tR := 59) (tN := 60) (src := 12) rfl (by decide), q_bound_rows_1, fun i => (by (conv => whnf); exact rfl), fun i Q _ h => p_bound_rows_1 h, fun i hi => (by (conv => whnf); exact inc64 hi hN.2)⟩
theorem c_bound_plus {a0 : Int} {a1 : Int} {a2 : Int} {a3 : Int} {Q : Int × Int → Prop} {R : AV → List AB → Prop} (h : (g_bound_plus a0 a1 a2 a3).run Q) (k : ∀ r, Q r → R (.agg [.int .i64 (r.fst), .int .i64 (r.snd)]) ([])) : ACalls Try.prog tab 71 [.agg [.int .i64 (a0), .int .i64 (a1)], .agg [.int .i64 (a2), .int .i64 (a3)]] [] R := by
  refine ACalls.out (fun r => .agg [.int .i64 (r.fst), .int .i64 (r.snd)]) (fun r => []) (Q := Q) (ACalls.introX (mv := mv) tab_ok mixed_ (fn := Try.f71) (by kernel_rfl) rfl (by kernel_rfl) (by kernel_rfl) (leB rfl) ?_) (fun v => by first | exact ⟨rfl, leB rfl⟩ | (cases v <;> exact ⟨rfl, leB rfl⟩)) k
  conv => whnf
  refine ⟨_, Weak.a ?_, ?_, h⟩; (conv => whnf); exact ⟨rfl, rfl, rfl, rfl, rfl⟩; exact rfl
theorem c___bound_hull__take_p {a0 : Int} {a1 : Int} {a2 : Int} {a3 : Int} {a4 : Bool} {Q : Int × Int × Bool → Prop} {R : AV → List AB → Prop} (h : (g___bound_hull__take_p a0 a1 a2 a3 a4).run Q) (k : ∀ r, Q r → R (.tup []) ([.box 136 [.int .i64 (r.fst), .int .i64 (r.snd.fst), .bool (r.snd.snd)]])) : ACalls Try.prog tab 72 [.ptr 0 0, .agg [.int .i64 (a0), .int .i64 (a1)]] [.box 136 [.int .i64 (a2), .int .i64 (a3), .bool (a4)]] R := by
  refine ACalls.out (fun r => .tup []) (fun r => [.box 136 [.int .i64 (r.fst), .int .i64 (r.snd.fst), .bool (r.snd.snd)]]) (Q := Q) (ACalls.introX (mv := mv) tab_ok mixed_ (fn := Try.f72) (by kernel_rfl) rfl (by kernel_rfl) (by kernel_rfl) (leB rfl) ?_) (fun v => by first | exact ⟨rfl, leB rfl⟩ | (cases v <;> exact ⟨rfl, leB rfl⟩)) k
  conv => whnf
  refine ASeq.joinW tab_ok mixed_ (fun v1 => ⟨[(0, .ptr 0 0), (3, .ptr 1 0)], [(0, .box 136 [.int .i64 (a2), .int .i64 (a3), .bool (a4)]), (1, .box 31 [.int .i64 (v1.fst), .int .i64 (v1.snd)])], 2, [], []⟩) h (fun Q h => ?_) (fun v1 h => ?_)
  · conv => whnf
    refine XSplit.mk (fun e => ?_) (fun e => ?_)
    · replace h := XSplit.t h e
      conv => whnf
      refine XDraw.d [0, 1, 2, 3, 4, 5, 6, 7, 8, 9, 10, 11, 12, 13, 14, 15, 16, 17] [[], [], [], [], [], [], [], [], [], [], [], [], [], [], [], [], [], [1]] (by decide +kernel) ?_
      conv => whnf
      refine ⟨_, Weak.a ?_, h⟩; (conv => whnf); exact ⟨rfl, rfl, rfl, rfl, rfl⟩
    · replace h := XSplit.f h e
      conv => whnf
      refine ⟨_, Weak.a ?_, h⟩; (conv => whnf); exact ⟨rfl, rfl, rfl, rfl, rfl⟩
  · conv => whnf
    refine ⟨_, Weak.a ?_, ?_, h⟩; (conv => whnf); exact ⟨rfl, rfl, rfl, rfl, rfl⟩; exact rfl
theorem c_bound_Total {a0 : Int} {a1 : Int} {a2 : Int} {a3 : Int} {a4 : Int} {a5 : Bool} {a6 : Rws} {a7 : Int} {a8 : Int} {a9 : Int} {a10 : Int} {a11 : Int} {Q : Int × Int × Int → Prop} {R : AV → List AB → Prop} (h : (g_bound_Total a0 a1 a2 a3 a4 a5 a6 a7 a8 a9 a10 a11).run Q) (k : ∀ r, Q r → R (.tup [.agg [.int .i64 (r.fst), .int .i64 (r.snd.fst)], .int .i64 (r.snd.snd)]) ([])) : ACalls Try.prog tab 42 [.agg [.int .i64 (a0), .int .i64 (a1), .int .i64 (a2), .int .i64 (a3), .int .i64 (a4), .sl (a5) 45 (a6), .int .i64 (a7)], .int .i64 (a8), .int .i64 (a9), .agg [.int .i64 (a10), .int .i64 (a11)]] [] R := by
  refine ACalls.out (fun r => .tup [.agg [.int .i64 (r.fst), .int .i64 (r.snd.fst)], .int .i64 (r.snd.snd)]) (fun r => []) (Q := Q) (ACalls.introX (mv := mv) tab_ok mixed_ (fn := Try.f42) (by kernel_rfl) rfl (by kernel_rfl) (by kernel_rfl) (leB rfl) ?_) (fun v => by first | exact ⟨rfl, leB rfl⟩ | (cases v <;> exact ⟨rfl, leB rfl⟩)) k
  conv => whnf
  refine ACalls.inn (c_bound_ask (W.bindE h) (fun v9 h => ?_)) ⟨rfl, rfl⟩
  conv => whnf
  refine ASeq.go tab_ok mixed_ ?_
  conv => whnf
  refine XSplit.mk (fun e => ?_) (fun e => ?_)
  · replace h := XSplit.t h e
    conv => whnf
    refine ⟨_, Weak.a ?_, ?_, h⟩; (conv => whnf); exact ⟨rfl, rfl, rfl, rfl, rfl⟩; exact rfl
  · replace h := XSplit.f h e
    conv => whnf
    refine ASeq.go tab_ok mixed_ ?_
    conv => whnf
    refine ACalls.inn (c_bound_rows (W.bindE h) (fun v10 h => ?_)) ⟨rfl, rfl⟩
    conv => whnf
    have hN := XNeed.c h; replace h := XNeed.x h
    refine ASeq.range tab_ok mixed_ 6 (ids := [0, 1, 2, 3, 4, 5]) (cs := [[.int .i64 (v10.fst)], [.int .i64 (v10.snd.fst), .int .i64 (v10.snd.snd.fst), .int .i64 (v10.snd.snd.snd.fst), .int .i64 (v10.snd.snd.snd.snd.fst), .int .i64 (v10.snd.snd.snd.snd.snd.fst), .sl (v10.snd.snd.snd.snd.snd.snd.fst) 45 (v10.snd.snd.snd.snd.snd.snd.snd.fst), .int .i64 (v10.snd.snd.snd.snd.snd.snd.snd.snd.fst)], [.int .i64 (v10.snd.snd.snd.snd.snd.snd.snd.snd.snd.fst)], [.int .i64 (v10.snd.snd.snd.snd.snd.snd.snd.snd.snd.snd.fst)], [.int .i64 (v10.snd.snd.snd.snd.snd.snd.snd.snd.snd.snd.snd.fst), .int .i64 (v10.snd.snd.snd.snd.snd.snd.snd.snd.snd.snd.snd.snd.fst)], [.int .i64 (v10.snd.snd.snd.snd.snd.snd.snd.snd.snd.snd.snd.snd.snd)]]) (fx := [8, 9, 10, 12, 33]) (fun v11 => ⟨[(8, .ptr 6 0), (9, .int .i64 (0)), (10, .ptr 7 0), (12, .ptr 8 0), (33, .fn 77 [] [.ptr 0 0, .ptr 1 0, .ptr 2 0, .ptr 3 0, .ptr 4 0, .ptr 5 0])], [(0, .box 3 [.int .i64 (v10.fst)]), (1, .box 26 [.int .i64 (v10.snd.fst), .int .i64 (v10.snd.snd.fst), .int .i64 (v10.snd.snd.snd.fst), .int .i64 (v10.snd.snd.snd.snd.fst), .int .i64 (v10.snd.snd.snd.snd.snd.fst), .sl (v10.snd.snd.snd.snd.snd.snd.fst) 45 (v10.snd.snd.snd.snd.snd.snd.snd.fst), .int .i64 (v10.snd.snd.snd.snd.snd.snd.snd.snd.fst)]), (2, .box 3 [.int .i64 (v10.snd.snd.snd.snd.snd.snd.snd.snd.snd.fst)]), (3, .box 3 [.int .i64 (v10.snd.snd.snd.snd.snd.snd.snd.snd.snd.snd.fst)]), (4, .box 31 [.int .i64 (v10.snd.snd.snd.snd.snd.snd.snd.snd.snd.snd.snd.fst), .int .i64 (v10.snd.snd.snd.snd.snd.snd.snd.snd.snd.snd.snd.snd.fst)]), (5, .box 2 [.int .i64 (v10.snd.snd.snd.snd.snd.snd.snd.snd.snd.snd.snd.snd.snd)]), (6, .box 31 [.int .i64 (0), .int .i64 (0)]), (7, .box 2 [.int .i64 (v9.fst)]), (8, .box 136 [.int .i64 (v11.fst), .int .i64 (v11.snd.fst), .bool (v11.snd.snd)])], 9, [], []⟩) _ ⟨fun _ => rfl, fun _ => (And.intro (Exists.intro _ rfl) (And.intro (Exists.intro _ rfl) (And.intro (Exists.intro _ rfl) (And.intro (Exists.intro _ rfl) (And.intro (Exists.intro _ rfl) (And.intro (Exists.intro _ rfl) trivial)))))), rfl, rfl, leB rfl, fun _ => leB rfl, fun _ => rfl, fun _ => ⟨rfl, rfl⟩, rfl, by decide +kernel, by decide +kernel⟩ (it_bound_rows_1 hN) (fun _ => rfl) (W.bindE h) (Weak.a ?_) (fun v12 v11 Q h => ?_) (fun v17 h => ?_)
    · conv => whnf
      exact ⟨rfl, rfl, rfl, rfl, rfl⟩
    · conv => whnf
      refine ASeq.go tab_ok mixed_ ?_
      conv => whnf
      refine ALoop.ofW tab_ok mixed_ (fun v13 => ⟨[(8, .ptr 6 0), (9, .int .i64 (0)), (10, .ptr 7 0), (12, .ptr 8 0), (13, .sl (false) 31 (v12)), (14, .ptr 9 0), (33, .fn 77 [] [.ptr 0 0, .ptr 1 0, .ptr 2 0, .ptr 3 0, .ptr 4 0, .ptr 5 0]), (35, .int .i64 (v9.fst)), (36, .int .i64 (v9.fst)), (37, .agg [.int .i64 (v9.fst), .int .i64 (v9.fst)]), (38, .sl (false) 31 (v12)), (39, .int .i64 ((↑(List.length v12) : Int))), (40, .int .i64 (v13.fst))], [(0, .box 3 [.int .i64 (v10.fst)]), (1, .box 26 [.int .i64 (v10.snd.fst), .int .i64 (v10.snd.snd.fst), .int .i64 (v10.snd.snd.snd.fst), .int .i64 (v10.snd.snd.snd.snd.fst), .int .i64 (v10.snd.snd.snd.snd.snd.fst), .sl (v10.snd.snd.snd.snd.snd.snd.fst) 45 (v10.snd.snd.snd.snd.snd.snd.snd.fst), .int .i64 (v10.snd.snd.snd.snd.snd.snd.snd.snd.fst)]), (2, .box 3 [.int .i64 (v10.snd.snd.snd.snd.snd.snd.snd.snd.snd.fst)]), (3, .box 3 [.int .i64 (v10.snd.snd.snd.snd.snd.snd.snd.snd.snd.snd.fst)]), (4, .box 31 [.int .i64 (v10.snd.snd.snd.snd.snd.snd.snd.snd.snd.snd.snd.fst), .int .i64 (v10.snd.snd.snd.snd.snd.snd.snd.snd.snd.snd.snd.snd.fst)]), (5, .box 2 [.int .i64 (v10.snd.snd.snd.snd.snd.snd.snd.snd.snd.snd.snd.snd.snd)]), (6, .box 31 [.int .i64 (0), .int .i64 (0)]), (7, .box 2 [.int .i64 (v9.fst)]), (8, .box 136 [.int .i64 (v11.fst), .int .i64 (v11.snd.fst), .bool (v11.snd.snd)]), (9, .box 31 [.int .i64 (v13.snd.fst), .int .i64 (v13.snd.snd)])], 10, [], []⟩) (fun v14 => (.exit 2, ⟨[(8, .ptr 6 0), (9, .int .i64 (0)), (10, .ptr 7 0), (12, .ptr 8 0), (13, .sl (false) 31 (v12)), (14, .ptr 9 0), (33, .fn 77 [] [.ptr 0 0, .ptr 1 0, .ptr 2 0, .ptr 3 0, .ptr 4 0, .ptr 5 0]), (35, .int .i64 (v9.fst)), (36, .int .i64 (v9.fst)), (37, .agg [.int .i64 (v9.fst), .int .i64 (v9.fst)]), (38, .sl (false) 31 (v12)), (39, .int .i64 ((↑(List.length v12) : Int))), (40, .int .i64 (v14.fst)), (41, .bool (v14.snd.fst))], [(0, .box 3 [.int .i64 (v10.fst)]), (1, .box 26 [.int .i64 (v10.snd.fst), .int .i64 (v10.snd.snd.fst), .int .i64 (v10.snd.snd.snd.fst), .int .i64 (v10.snd.snd.snd.snd.fst), .int .i64 (v10.snd.snd.snd.snd.snd.fst), .sl (v10.snd.snd.snd.snd.snd.snd.fst) 45 (v10.snd.snd.snd.snd.snd.snd.snd.fst), .int .i64 (v10.snd.snd.snd.snd.snd.snd.snd.snd.fst)]), (2, .box 3 [.int .i64 (v10.snd.snd.snd.snd.snd.snd.snd.snd.snd.fst)]), (3, .box 3 [.int .i64 (v10.snd.snd.snd.snd.snd.snd.snd.snd.snd.snd.fst)]), (4, .box 31 [.int .i64 (v10.snd.snd.snd.snd.snd.snd.snd.snd.snd.snd.snd.fst), .int .i64 (v10.snd.snd.snd.snd.snd.snd.snd.snd.snd.snd.snd.snd.fst)]), (5, .box 2 [.int .i64 (v10.snd.snd.snd.snd.snd.snd.snd.snd.snd.snd.snd.snd.snd)]), (6, .box 31 [.int .i64 (0), .int .i64 (0)]), (7, .box 2 [.int .i64 (v9.fst)]), (8, .box 136 [.int .i64 (v11.fst), .int .i64 (v11.snd.fst), .bool (v11.snd.snd)]), (9, .box 31 [.int .i64 (v14.snd.snd.fst), .int .i64 (v14.snd.snd.snd)])], 10, [], []⟩)) (W.bindE h) (Weak.a ?_) (fun v13 J_ Q h => ?_) (fun v14 h => ?_)
      · conv => whnf
        exact ⟨rfl, rfl, rfl, rfl, rfl⟩
      · conv => whnf
        refine ASeq.go tab_ok mixed_ ?_
        conv => whnf
        refine XSplit.mk (fun e => ?_) (fun e => ?_)
        · replace h := XSplit.t h e
          conv => whnf
          refine ASeq.go tab_ok mixed_ ?_
          conv => whnf
          refine XNeed.mk (XNeed.c h) ?_; replace h := XNeed.x h
          conv => whnf
          refine ACalls.inn (c_bound_plus (W.bindE h) (fun v15 h => ?_)) ⟨rfl, rfl⟩
          conv => whnf
          refine ⟨_, Weak.a ?_, h⟩; (conv => whnf); exact ⟨rfl, rfl, rfl, rfl, rfl⟩
        · replace h := XSplit.f h e
          conv => whnf
          refine ⟨_, ?_, Weak.a ?_, h⟩; exact rfl; (conv => whnf); exact ⟨rfl, rfl, rfl, rfl, rfl⟩
      · conv => whnf
        refine ACalls.inn (c___bound_hull__take_p (W.bindE h) (fun v16 h => ?_)) ⟨rfl, rfl⟩
        conv => whnf
        refine ⟨_, Weak.a ?_, h⟩; (conv => whnf); exact ⟨rfl, rfl, rfl, rfl, rfl⟩
    · conv => whnf
      refine ⟨_, Weak.a ?_, ?_, h⟩; (conv => whnf); exact ⟨rfl, rfl, rfl, rfl, rfl⟩; exact rfl
theorem c_span_Hull {a0 : Int} {a1 : Int} {a2 : Int} {a3 : Int} {Q : Int × Int × Int → Prop} {R : AV → List AB → Prop} (h : (g_span_Hull a0 a1 a2 a3).run Q) (k : ∀ r, Q r → R (.tup [.agg [.int .i64 (r.fst), .int .i64 (r.snd.fst)], .int .i64 (r.snd.snd)]) ([])) : ACalls Try.prog tab 43 [.agg [.int .i64 (a0), .int .i64 (a1)], .agg [.int .i64 (a2), .int .i64 (a3)]] [] R := by
  refine ACalls.out (fun r => .tup [.agg [.int .i64 (r.fst), .int .i64 (r.snd.fst)], .int .i64 (r.snd.snd)]) (fun r => []) (Q := Q) (ACalls.introX (mv := mv) tab_ok mixed_ (fn := Try.f43) (by kernel_rfl) rfl (by kernel_rfl) (by kernel_rfl) (leB rfl) ?_) (fun v => by first | exact ⟨rfl, leB rfl⟩ | (cases v <;> exact ⟨rfl, leB rfl⟩)) k
  conv => whnf
  refine ASeq.go tab_ok mixed_ ?_
  conv => whnf
  refine ASeq.joinW tab_ok mixed_ (fun v3 => ⟨[(2, .ptr 0 0), (3, .ptr 1 0), (4, .ptr 2 0), (5, .int .i64 (0)), (13, .bool (v3))], [(0, .box 31 [.int .i64 (a0), .int .i64 (a1)]), (1, .box 31 [.int .i64 (a2), .int .i64 (a3)]), (2, .box 31 [.int .i64 (0), .int .i64 (0)])], 3, [], []⟩) h (fun Q h => ?_) (fun v3 h => ?_)
  · conv => whnf
    refine ACalls.inn (c_span_Valid (W.bindE h) (fun v4 h => ?_)) ⟨rfl, rfl⟩
    conv => whnf
    refine XSplit.mk (fun e => ?_) (fun e => ?_)
    · replace h := XSplit.t h e
      conv => whnf
      refine ⟨_, Weak.a ?_, h⟩; (conv => whnf); exact ⟨rfl, rfl, rfl, rfl, rfl⟩
    · replace h := XSplit.f h e
      conv => whnf
      refine ACalls.inn (c_span_Valid (W.bindE h) (fun v5 h => ?_)) ⟨rfl, rfl⟩
      conv => whnf
      refine ⟨_, Weak.a ?_, h⟩; (conv => whnf); exact ⟨rfl, rfl, rfl, rfl, rfl⟩
  · conv => whnf
    refine XSplit.mk (fun e => ?_) (fun e => ?_)
    · replace h := XSplit.t h e
      conv => whnf
      refine ⟨_, Weak.a ?_, ?_, h⟩; (conv => whnf); exact ⟨rfl, rfl, rfl, rfl, rfl⟩; exact rfl
    · replace h := XSplit.f h e
      conv => whnf
      refine ⟨_, Weak.a ?_, ?_, h⟩; (conv => whnf); exact ⟨rfl, rfl, rfl, rfl, rfl⟩; exact rfl
theorem c_flow_totals {a0 : Int} {a1 : Int} {a2 : Int} {a3 : Int} {a4 : Int} {a5 : Bool} {a6 : Rws} {a7 : Int} {a8 : Int} {a9 : Int} {a10 : Int} {Q : Int × Int → Prop} {R : AV → List AB → Prop} (h : (g_flow_totals a0 a1 a2 a3 a4 a5 a6 a7 a8 a9 a10).run Q) (k : ∀ r, Q r → R (.agg [.int .i64 (r.fst), .int .i64 (r.snd)]) ([])) : ACalls Try.prog tab 26 [.agg [.int .i64 (a0), .int .i64 (a1), .int .i64 (a2), .int .i64 (a3), .int .i64 (a4), .sl (a5) 45 (a6), .int .i64 (a7)], .int .i64 (a8), .agg [.int .i64 (a9), .int .i64 (a10)]] [] R := by
  refine ACalls.out (fun r => .agg [.int .i64 (r.fst), .int .i64 (r.snd)]) (fun r => []) (Q := Q) (ACalls.introX (mv := mv) tab_ok mixed_ (fn := Try.f26) (by kernel_rfl) rfl (by kernel_rfl) (by kernel_rfl) (leB rfl) ?_) (fun v => by first | exact ⟨rfl, leB rfl⟩ | (cases v <;> exact ⟨rfl, leB rfl⟩)) k
  conv => whnf
  refine ACalls.inn (c_terms_Channels (W.bindE h) (fun v6 h => ?_)) ⟨rfl, rfl⟩
  conv => whnf
  refine ASeq.go tab_ok mixed_ ?_
  conv => whnf
  refine ALoop.ofW tab_ok mixed_ (fun v7 => ⟨[(1, .int .i64 (a8)), (3, .ptr 0 0), (5, .ptr 1 0), (6, .ptr 2 0), (7, .int .i64 (v6.fst)), (9, .ptr 3 0), (10, .int .i64 (v7.fst))], [(0, .box 26 [.int .i64 (a0), .int .i64 (a1), .int .i64 (a2), .int .i64 (a3), .int .i64 (a4), .sl (a5) 45 (a6), .int .i64 (a7)]), (1, .box 31 [.int .i64 (a9), .int .i64 (a10)]), (2, .box 31 [.int .i64 (0), .int .i64 (0)]), (3, .box 31 [.int .i64 (v7.snd.fst), .int .i64 (v7.snd.snd)])], 4, [], []⟩) (fun v8 => (.exit 0, ⟨[(6, .ptr 0 0), (9, .ptr 1 0)], [(0, .box 31 [.int .i64 (0), .int .i64 (0)]), (1, .box 31 [.int .i64 (v8.fst), .int .i64 (v8.snd)])], 2, [], []⟩)) (W.bindE h) (Weak.a ?_) (fun v7 J_ Q h => ?_) (fun v8 h => ?_)
  · conv => whnf
    exact ⟨rfl, rfl, rfl, rfl, rfl⟩
  · conv => whnf
    refine ASeq.go tab_ok mixed_ ?_
    conv => whnf
    refine XSplit.mk (fun e => ?_) (fun e => ?_)
    · replace h := XSplit.t h e
      conv => whnf
      refine ASeq.go tab_ok mixed_ ?_
      conv => whnf
      refine ACalls.inn (c_bound_Total (W.bindE h) (fun v9 h => ?_)) ⟨rfl, rfl⟩
      conv => whnf
      refine ASeq.joinW tab_ok mixed_ (fun v10 => ⟨[(1, .int .i64 (a8)), (3, .ptr 0 0), (5, .ptr 1 0), (6, .ptr 2 0), (7, .int .i64 (v6.fst)), (9, .ptr 3 0), (10, .int .i64 (v7.fst)), (11, .ptr 4 0), (19, .int .i64 (v7.fst)), (20, .int .i64 (v6.fst)), (21, .bool (decide (v7.fst ≤ v6.fst))), (24, .tup [.agg [.int .i64 (v9.fst), .int .i64 (v9.snd.fst)], .int .i64 (v9.snd.snd)]), (25, .agg [.int .i64 (a0), .int .i64 (a1), .int .i64 (a2), .int .i64 (a3), .int .i64 (a4), .sl (a5) 45 (a6), .int .i64 (a7)]), (26, .int .i64 (a8)), (27, .int .i64 (v7.fst)), (28, .agg [.int .i64 (a9), .int .i64 (a10)]), (29, .tup [.agg [.int .i64 (v9.fst), .int .i64 (v9.snd.fst)], .int .i64 (v9.snd.snd)]), (30, .agg [.int .i64 (v9.fst), .int .i64 (v9.snd.fst)]), (31, .int .i64 (v9.snd.snd)), (32, .int .i64 (v7.fst)), (33, .bool (decide (1 < v7.fst)))], [(0, .box 26 [.int .i64 (a0), .int .i64 (a1), .int .i64 (a2), .int .i64 (a3), .int .i64 (a4), .sl (a5) 45 (a6), .int .i64 (a7)]), (1, .box 31 [.int .i64 (a9), .int .i64 (a10)]), (2, .box 31 [.int .i64 (0), .int .i64 (0)]), (3, .box 31 [.int .i64 (v7.snd.fst), .int .i64 (v7.snd.snd)]), (4, .box 31 [.int .i64 (v10.fst), .int .i64 (v10.snd)])], 5, [], []⟩) h (fun Q h => ?_) (fun v10 h => ?_)
      · conv => whnf
        refine XSplit.mk (fun e => ?_) (fun e => ?_)
        · replace h := XSplit.t h e
          conv => whnf
          refine ACalls.inn (c_span_Hull (W.bindE h) (fun v11 h => ?_)) ⟨rfl, rfl⟩
          conv => whnf
          refine ⟨_, Weak.a ?_, h⟩; (conv => whnf); exact ⟨rfl, rfl, rfl, rfl, rfl⟩
        · replace h := XSplit.f h e
          conv => whnf
          refine ⟨_, Weak.a ?_, h⟩; (conv => whnf); exact ⟨rfl, rfl, rfl, rfl, rfl⟩
      · conv => whnf
        refine ⟨_, Weak.a ?_, h⟩; (conv => whnf); exact ⟨rfl, rfl, rfl, rfl, rfl⟩
    · replace h := XSplit.f h e
      conv => whnf
      refine ⟨_, ?_, Weak.a ?_, h⟩; exact rfl; (conv => whnf); exact ⟨rfl, rfl, rfl, rfl, rfl⟩
  · conv => whnf
    refine ⟨_, Weak.a ?_, ?_, h⟩; (conv => whnf); exact ⟨rfl, rfl, rfl, rfl, rfl⟩; exact rfl
theorem c_fixq_magnitude {a0 : Int} {Q : Int × Bool → Prop} {R : AV → List AB → Prop} (h : (g_fixq_magnitude a0).run Q) (k : ∀ r, Q r → R (.tup [.int .u64 (r.fst), .bool (r.snd)]) ([])) : ACalls Try.prog tab 46 [.int .i64 (a0)] [] R := by
  refine ACalls.out (fun r => .tup [.int .u64 (r.fst), .bool (r.snd)]) (fun r => []) (Q := Q) (ACalls.introX (mv := mv) tab_ok mixed_ (fn := Try.f46) (by kernel_rfl) rfl (by kernel_rfl) (by kernel_rfl) (leB rfl) ?_) (fun v => by first | exact ⟨rfl, leB rfl⟩ | (cases v <;> exact ⟨rfl, leB rfl⟩)) k
  conv => whnf
  refine ASeq.go tab_ok mixed_ ?_
  conv => whnf
  refine XSplit.mk (fun e => ?_) (fun e => ?_)
  · replace h := XSplit.t h e
    conv => whnf
    refine ⟨_, Weak.a ?_, ?_, h⟩; (conv => whnf); exact ⟨rfl, rfl, rfl, rfl, rfl⟩; exact rfl
  · replace h := XSplit.f h e
    conv => whnf
    refine ⟨_, Weak.a ?_, ?_, h⟩; (conv => whnf); exact ⟨rfl, rfl, rfl, rfl, rfl⟩; exact rfl
theorem c_fixq_signed {a0 : Int} {a1 : Bool} {Q : Int → Prop} {R : AV → List AB → Prop} (h : (g_fixq_signed a0 a1).run Q) (k : ∀ r, Q r → R (.int .i64 (r)) ([])) : ACalls Try.prog tab 50 [.int .u64 (a0), .bool (a1)] [] R := by
  refine ACalls.out (fun r => .int .i64 (r)) (fun r => []) (Q := Q) (ACalls.introX (mv := mv) tab_ok mixed_ (fn := Try.f50) (by kernel_rfl) rfl (by kernel_rfl) (by kernel_rfl) (leB rfl) ?_) (fun v => by first | exact ⟨rfl, leB rfl⟩ | (cases v <;> exact ⟨rfl, leB rfl⟩)) k
  conv => whnf
  refine ASeq.go tab_ok mixed_ ?_
  conv => whnf
  refine XSplit.mk (fun e => ?_) (fun e => ?_)
  · replace h := XSplit.t h e
    conv => whnf
    refine ⟨_, Weak.a ?_, ?_, h⟩; (conv => whnf); exact ⟨rfl, rfl, rfl, rfl, rfl⟩; exact rfl
  · replace h := XSplit.f h e
    conv => whnf
    refine ⟨_, Weak.a ?_, ?_, h⟩; (conv => whnf); exact ⟨rfl, rfl, rfl, rfl, rfl⟩; exact rfl
theorem c_fixq_Shift {a0 : Int} {a1 : Int} {Q : Int × Int → Prop} {R : AV → List AB → Prop} (h : (g_fixq_Shift a0 a1).run Q) (k : ∀ r, Q r → R (.tup [.int .i64 (r.fst), .int .i64 (r.snd)]) ([])) : ACalls Try.prog tab 59 [.int .i64 (a0), .int .i64 (a1)] [] R := by
  refine ACalls.out (fun r => .tup [.int .i64 (r.fst), .int .i64 (r.snd)]) (fun r => []) (Q := Q) (ACalls.introX (mv := mv) tab_ok mixed_ (fn := Try.f59) (by kernel_rfl) rfl (by kernel_rfl) (by kernel_rfl) (leB rfl) ?_) (fun v => by first | exact ⟨rfl, leB rfl⟩ | (cases v <;> exact ⟨rfl, leB rfl⟩)) k
  conv => whnf
  refine ASeq.go tab_ok mixed_ ?_
  conv => whnf
  refine XSplit.mk (fun e => ?_) (fun e => ?_)
  · replace h := XSplit.t h e
    conv => whnf
    refine ⟨_, Weak.a ?_, ?_, h⟩; (conv => whnf); exact ⟨rfl, rfl, rfl, rfl, rfl⟩; exact rfl
  · replace h := XSplit.f h e
    conv => whnf
    refine ACalls.inn (c_fixq_magnitude (W.bindE h) (fun v3 h => ?_)) ⟨rfl, rfl⟩
    conv => whnf
    refine XNeed.mk (XNeed.c h) ?_; replace h := XNeed.x h
    conv => whnf
    refine ASeq.joinW tab_ok mixed_ (fun v4 => ⟨[(4, .int .i64 (0)), (5, .int .i64 (0)), (7, .bool (v3.snd)), (8, .int .u64 (v4))], [], 0, [], []⟩) h (fun Q h => ?_) (fun v4 h => ?_)
    · conv => whnf
      refine XSplit.mk (fun e => ?_) (fun e => ?_)
      · replace h := XSplit.t h e
        conv => whnf
        refine XNeed.mk (XNeed.c h) ?_; replace h := XNeed.x h
        conv => whnf
        refine ⟨_, Weak.a ?_, h⟩; (conv => whnf); exact ⟨rfl, rfl, rfl, rfl, rfl⟩
      · replace h := XSplit.f h e
        conv => whnf
        refine ⟨_, Weak.a ?_, h⟩; (conv => whnf); exact ⟨rfl, rfl, rfl, rfl, rfl⟩
    · conv => whnf
      refine ACalls.inn (c_fixq_signed (W.bindE h) (fun v5 h => ?_)) ⟨rfl, rfl⟩
      conv => whnf
      refine ⟨_, Weak.a ?_, ?_, h⟩; (conv => whnf); exact ⟨rfl, rfl, rfl, rfl, rfl⟩; exact rfl
theorem c_fixq_Apply {a0 : Int} {a1 : Int} {a2 : Int} {Q : Int × Int → Prop} {R : AV → List AB → Prop} (h : (g_fixq_Apply a0 a1 a2).run Q) (k : ∀ r, Q r → R (.tup [.int .i64 (r.fst), .int .i64 (r.snd)]) ([])) : ACalls Try.prog tab 34 [.int .i64 (a0), .agg [.int .i64 (a1), .int .i64 (a2)]] [] R := by
  refine ACalls.out (fun r => .tup [.int .i64 (r.fst), .int .i64 (r.snd)]) (fun r => []) (Q := Q) (ACalls.introX (mv := mv) tab_ok mixed_ (fn := Try.f34) (by kernel_rfl) rfl (by kernel_rfl) (by kernel_rfl) (leB rfl) ?_) (fun v => by first | exact ⟨rfl, leB rfl⟩ | (cases v <;> exact ⟨rfl, leB rfl⟩)) k
  conv => whnf
  refine ASeq.go tab_ok mixed_ ?_
  conv => whnf
  refine ACalls.inn (c_fixq_Valid (W.bindE h) (fun v4 h => ?_)) ⟨rfl, rfl⟩
  conv => whnf
  refine XSplit.mk (fun e => ?_) (fun e => ?_)
  · replace h := XSplit.t h e
    conv => whnf
    refine ⟨_, Weak.a ?_, ?_, h⟩; (conv => whnf); exact ⟨rfl, rfl, rfl, rfl, rfl⟩; exact rfl
  · replace h := XSplit.f h e
    conv => whnf
    refine ACalls.inn (c_fixq_magnitude (W.bindE h) (fun v5 h => ?_)) ⟨rfl, rfl⟩
    conv => whnf
    refine ASeq.go tab_ok mixed_ ?_
    conv => whnf
    refine XSplit.mk (fun e => ?_) (fun e => ?_)
    · replace h := XSplit.t h e
      conv => whnf
      refine ⟨_, Weak.a ?_, ?_, h⟩; (conv => whnf); exact ⟨rfl, rfl, rfl, rfl, rfl⟩; exact rfl
    · replace h := XSplit.f h e
      conv => whnf
      refine ACalls.inn (c_fixq_Shift (W.bindE h) (fun v6 h => ?_)) ⟨rfl, rfl⟩
      conv => whnf
      refine ACalls.inn (c_fixq_signed (W.bindE h) (fun v7 h => ?_)) ⟨rfl, rfl⟩
      conv => whnf
      refine ⟨_, Weak.a ?_, ?_, h⟩; (conv => whnf); exact ⟨rfl, rfl, rfl, rfl, rfl⟩; exact rfl
theorem c_span_Scaled {a0 : Int} {a1 : Int} {a2 : Int} {a3 : Int} {Q : Int × Int × Int → Prop} {R : AV → List AB → Prop} (h : (g_span_Scaled a0 a1 a2 a3).run Q) (k : ∀ r, Q r → R (.tup [.agg [.int .i64 (r.fst), .int .i64 (r.snd.fst)], .int .i64 (r.snd.snd)]) ([])) : ACalls Try.prog tab 27 [.agg [.int .i64 (a0), .int .i64 (a1)], .agg [.int .i64 (a2), .int .i64 (a3)]] [] R := by
  refine ACalls.out (fun r => .tup [.agg [.int .i64 (r.fst), .int .i64 (r.snd.fst)], .int .i64 (r.snd.snd)]) (fun r => []) (Q := Q) (ACalls.introX (mv := mv) tab_ok mixed_ (fn := Try.f27) (by kernel_rfl) rfl (by kernel_rfl) (by kernel_rfl) (leB rfl) ?_) (fun v => by first | exact ⟨rfl, leB rfl⟩ | (cases v <;> exact ⟨rfl, leB rfl⟩)) k
  conv => whnf
  refine ASeq.go tab_ok mixed_ ?_
  conv => whnf
  refine ACalls.inn (c_span_Valid (W.bindE h) (fun v4 h => ?_)) ⟨rfl, rfl⟩
  conv => whnf
  refine XSplit.mk (fun e => ?_) (fun e => ?_)
  · replace h := XSplit.t h e
    conv => whnf
    refine ⟨_, Weak.a ?_, ?_, h⟩; (conv => whnf); exact ⟨rfl, rfl, rfl, rfl, rfl⟩; exact rfl
  · replace h := XSplit.f h e
    conv => whnf
    refine ACalls.inn (c_fixq_Apply (W.bindE h) (fun v5 h => ?_)) ⟨rfl, rfl⟩
    conv => whnf
    refine ACalls.inn (c_fixq_Apply (W.bindE h) (fun v6 h => ?_)) ⟨rfl, rfl⟩
    conv => whnf
    refine ACalls.inn (c_span_pair (W.bindE h) (fun v7 h => ?_)) ⟨rfl, rfl⟩
    conv => whnf
    refine ⟨_, Weak.a ?_, ?_, h⟩; (conv => whnf); exact ⟨rfl, rfl, rfl, rfl, rfl⟩; exact rfl
theorem c_terms_Length {a0 : Int} {a1 : Int} {a2 : Int} {a3 : Int} {a4 : Int} {a5 : Bool} {a6 : Rws} {a7 : Int} {a8 : Int} {Q : Int × Int → Prop} {R : AV → List AB → Prop} (h : (g_terms_Length a0 a1 a2 a3 a4 a5 a6 a7 a8).run Q) (k : ∀ r, Q r → R (.tup [.int .i64 (r.fst), .int .i64 (r.snd)]) ([])) : ACalls Try.prog tab 28 [.agg [.int .i64 (a0), .int .i64 (a1), .int .i64 (a2), .int .i64 (a3), .int .i64 (a4), .sl (a5) 45 (a6), .int .i64 (a7)], .int .i64 (a8)] [] R := by
  refine ACalls.out (fun r => .tup [.int .i64 (r.fst), .int .i64 (r.snd)]) (fun r => []) (Q := Q) (ACalls.introX (mv := mv) tab_ok mixed_ (fn := Try.f28) (by kernel_rfl) rfl (by kernel_rfl) (by kernel_rfl) (leB rfl) ?_) (fun v => by first | exact ⟨rfl, leB rfl⟩ | (cases v <;> exact ⟨rfl, leB rfl⟩)) k
  conv => whnf
  refine ACalls.inn (c_terms_find (W.bindE h) (fun v1 h => ?_)) ⟨rfl, rfl⟩
  conv => whnf
  refine ⟨_, Weak.a ?_, ?_, h⟩; (conv => whnf); exact ⟨rfl, rfl, rfl, rfl, rfl⟩; exact rfl
theorem c_math_bits_Add64 {a0 a1 a2 : Int} {Q : Int × Int → Prop} {R : AV → List AB → Prop} (h : (g_math_bits_Add64 a0 a1 a2).run Q) (k : ∀ r, Q r → R (.tup [.int .u64 r.1, .int .u64 r.2]) []) : ACalls Try.prog tab 48 [.int .u64 a0, .int .u64 a1, .int .u64 a2] [] R := ACalls.add64 (fn := Try.f48) (by kernel_rfl) (by kernel_rfl) (by kernel_rfl) (by kernel_rfl) (by kernel_rfl) h k
theorem c_math_bits_Len64 {a0 : Int} {Q : Int → Prop} {R : AV → List AB → Prop} (h : (g_math_bits_Len64 a0).run Q) (k : ∀ r, Q r → R (.int .i64 (r)) ([])) : ACalls Try.prog tab 79 [.int .u64 (a0)] [] R := by
  refine ACalls.out (fun r => .int .i64 (r)) (fun r => []) (Q := Q) (ACalls.introX (mv := mv) tab_ok mixed_ (fn := Try.f79) (by kernel_rfl) rfl (by kernel_rfl) (by kernel_rfl) (leB rfl) ?_) (fun v => by first | exact ⟨rfl, leB rfl⟩ | (cases v <;> exact ⟨rfl, leB rfl⟩)) k
  conv => whnf
  refine ASeq.joinW tab_ok mixed_ (fun v3 => ⟨[(0, .int .u64 (v3.fst)), (2, .int .i64 (v3.snd))], [], 0, [], []⟩) h (fun Q h => ?_) (fun v3 h => ?_)
  · conv => whnf
    refine XSplit.mk (fun e => ?_) (fun e => ?_)
    · replace h := XSplit.t h e
      conv => whnf
      refine XNeed.mk (of_decide_eq_true rfl) ?_
      conv => whnf
      refine ⟨_, Weak.a ?_, h⟩; (conv => whnf); exact ⟨rfl, rfl, rfl, rfl, rfl⟩
    · replace h := XSplit.f h e
      conv => whnf
      refine ⟨_, Weak.a ?_, h⟩; (conv => whnf); exact ⟨rfl, rfl, rfl, rfl, rfl⟩
  · conv => whnf
    refine ASeq.joinW tab_ok mixed_ (fun v4 => ⟨[(0, .int .u64 (v4.fst)), (2, .int .i64 (v4.snd))], [], 0, [], []⟩) h (fun Q h => ?_) (fun v4 h => ?_)
    · conv => whnf
      refine XSplit.mk (fun e => ?_) (fun e => ?_)
      · replace h := XSplit.t h e
        conv => whnf
        refine XNeed.mk (of_decide_eq_true rfl) ?_
        conv => whnf
        refine ⟨_, Weak.a ?_, h⟩; (conv => whnf); exact ⟨rfl, rfl, rfl, rfl, rfl⟩
      · replace h := XSplit.f h e
        conv => whnf
        refine ⟨_, Weak.a ?_, h⟩; (conv => whnf); exact ⟨rfl, rfl, rfl, rfl, rfl⟩
    · conv => whnf
      refine ASeq.joinW tab_ok mixed_ (fun v5 => ⟨[(0, .int .u64 (v5.fst)), (2, .int .i64 (v5.snd))], [], 0, [], []⟩) h (fun Q h => ?_) (fun v5 h => ?_)
      · conv => whnf
        refine XSplit.mk (fun e => ?_) (fun e => ?_)
        · replace h := XSplit.t h e
          conv => whnf
          refine XNeed.mk (of_decide_eq_true rfl) ?_
          conv => whnf
          refine ⟨_, Weak.a ?_, h⟩; (conv => whnf); exact ⟨rfl, rfl, rfl, rfl, rfl⟩
        · replace h := XSplit.f h e
          conv => whnf
          refine ⟨_, Weak.a ?_, h⟩; (conv => whnf); exact ⟨rfl, rfl, rfl, rfl, rfl⟩
      · conv => whnf
        refine XNeed.mk (XNeed.c h) ?_; replace h := XNeed.x h
        conv => whnf
        refine ⟨_, Weak.a ?_, ?_, h⟩; (conv => whnf); exact ⟨rfl, rfl, rfl, rfl, rfl⟩; exact rfl
theorem c_math_bits_LeadingZeros64 {a0 : Int} {Q : Int → Prop} {R : AV → List AB → Prop} (h : (g_math_bits_LeadingZeros64 a0).run Q) (k : ∀ r, Q r → R (.int .i64 (r)) ([])) : ACalls Try.prog tab 73 [.int .u64 (a0)] [] R := by
  refine ACalls.out (fun r => .int .i64 (r)) (fun r => []) (Q := Q) (ACalls.introX (mv := mv) tab_ok mixed_ (fn := Try.f73) (by kernel_rfl) rfl (by kernel_rfl) (by kernel_rfl) (leB rfl) ?_) (fun v => by first | exact ⟨rfl, leB rfl⟩ | (cases v <;> exact ⟨rfl, leB rfl⟩)) k
  conv => whnf
  refine ACalls.inn (c_math_bits_Len64 (W.bindE h) (fun v1 h => ?_)) ⟨rfl, rfl⟩
  conv => whnf
  refine ⟨_, Weak.a ?_, ?_, h⟩; (conv => whnf); exact ⟨rfl, rfl, rfl, rfl, rfl⟩; exact rfl
theorem c_math_bits_Div64 {a0 : Int} {a1 : Int} {a2 : Int} {Q : Int × Int → Prop} {R : AV → List AB → Prop} (h : (g_math_bits_Div64 a0 a1 a2).run Q) (k : ∀ r, Q r → R (.tup [.int .u64 (r.fst), .int .u64 (r.snd)]) ([])) : ACalls Try.prog tab 49 [.int .u64 (a0), .int .u64 (a1), .int .u64 (a2)] [] R := by
  refine ACalls.out (fun r => .tup [.int .u64 (r.fst), .int .u64 (r.snd)]) (fun r => []) (Q := Q) (ACalls.introX (mv := mv) tab_ok mixed_ (fn := Try.f49) (by kernel_rfl) rfl (by kernel_rfl) (by kernel_rfl) (leB rfl) ?_) (fun v => by first | exact ⟨rfl, leB rfl⟩ | (cases v <;> exact ⟨rfl, leB rfl⟩)) k
  conv => whnf
  refine ASeq.go tab_ok mixed_ ?_
  conv => whnf
  refine XSplit.mk (fun e => ?_) (fun e => ?_)
  · replace h := XSplit.t h e
    conv => whnf
    refine XNeed.mk (XNeed.c h) ?_; replace h := XNeed.x h
    conv => whnf
    refine XNeed.mk (XNeed.c h) ?_; replace h := XNeed.x h
    conv => whnf
    exact trivial
  · replace h := XSplit.f h e
    conv => whnf
    refine ASeq.go tab_ok mixed_ ?_
    conv => whnf
    refine XSplit.mk (fun e => ?_) (fun e => ?_)
    · replace h := XSplit.t h e
      conv => whnf
      refine XNeed.mk (XNeed.c h) ?_; replace h := XNeed.x h
      conv => whnf
      refine XNeed.mk (XNeed.c h) ?_; replace h := XNeed.x h
      conv => whnf
      exact trivial
    · replace h := XSplit.f h e
      conv => whnf
      refine ASeq.go tab_ok mixed_ ?_
      conv => whnf
      refine XSplit.mk (fun e => ?_) (fun e => ?_)
      · replace h := XSplit.t h e
        conv => whnf
        refine XDraw.q [0, 1, 2, 3, 4, 5, 6, 7] (by decide +kernel) ?_
        conv => whnf
        refine XNeed.mk (XNeed.c h) ?_; replace h := XNeed.x h
        conv => whnf
        refine XNeed.mk (XNeed.c h) ?_; replace h := XNeed.x h
        conv => whnf
        refine ⟨_, Weak.a ?_, ?_, h⟩; (conv => whnf); exact ⟨rfl, rfl, rfl, rfl, rfl⟩; exact rfl
      · replace h := XSplit.f h e
        conv => whnf
        refine ACalls.inn (c_math_bits_LeadingZeros64 (W.bindE h) (fun v5 h => ?_)) ⟨rfl, rfl⟩
        conv => whnf
        refine XNeed.mk (XNeed.c h) ?_; replace h := XNeed.x h
        conv => whnf
        refine XNeed.mk (of_decide_eq_true rfl) ?_
        conv => whnf
        refine XNeed.mk (XNeed.c h) ?_; replace h := XNeed.x h
        conv => whnf
        refine XNeed.mk (XNeed.c h) ?_; replace h := XNeed.x h
        conv => whnf
        refine XNeed.mk (XNeed.c h) ?_; replace h := XNeed.x h
        conv => whnf
        refine XNeed.mk (of_decide_eq_true rfl) ?_
        conv => whnf
        refine XNeed.mk (XNeed.c h) ?_; replace h := XNeed.x h
        conv => whnf
        refine ASeq.go tab_ok mixed_ ?_
        conv => whnf
        refine ALoop.ofW tab_ok mixed_ (fun v6 => ⟨[(2, .int .u64 (IntKind.u64.wrap (a2 * 2 ^ min (IntKind.u64.wrap v5).toNat 64))), (6, .int .u64 (0)), (7, .int .u64 (0)), (8, .int .u64 (IntKind.u64.wrap v5)), (9, .int .u64 ((IntKind.u64.wrap (a2 * 2 ^ min (IntKind.u64.wrap v5).toNat 64)).fdiv 4294967296)), (10, .int .u64 (ibits BinOp.and IntKind.u64 (IntKind.u64.wrap (a2 * 2 ^ min (IntKind.u64.wrap v5).toNat 64)) 4294967295)), (11, .int .u64 (ibits BinOp.or IntKind.u64 (IntKind.u64.wrap (a0 * 2 ^ min (IntKind.u64.wrap v5).toNat 64)) (a1.fdiv (2 ^ min (IntKind.u64.wrap (64 - IntKind.u64.wrap v5)).toNat 64)))), (13, .int .u64 ((IntKind.u64.wrap (a1 * 2 ^ min (IntKind.u64.wrap v5).toNat 64)).fdiv 4294967296)), (14, .int .u64 (ibits BinOp.and IntKind.u64 (IntKind.u64.wrap (a1 * 2 ^ min (IntKind.u64.wrap v5).toNat 64)) 4294967295)), (15, .int .u64 (v6.fst)), (16, .int .u64 (v6.snd))], [], 0, [], []⟩) (fun v7 => (.exit 0, ⟨[(2, .int .u64 (IntKind.u64.wrap (a2 * 2 ^ min (IntKind.u64.wrap v5).toNat 64))), (6, .int .u64 (0)), (7, .int .u64 (0)), (8, .int .u64 (IntKind.u64.wrap v5)), (9, .int .u64 ((IntKind.u64.wrap (a2 * 2 ^ min (IntKind.u64.wrap v5).toNat 64)).fdiv 4294967296)), (10, .int .u64 (ibits BinOp.and IntKind.u64 (IntKind.u64.wrap (a2 * 2 ^ min (IntKind.u64.wrap v5).toNat 64)) 4294967295)), (11, .int .u64 (ibits BinOp.or IntKind.u64 (IntKind.u64.wrap (a0 * 2 ^ min (IntKind.u64.wrap v5).toNat 64)) (a1.fdiv (2 ^ min (IntKind.u64.wrap (64 - IntKind.u64.wrap v5)).toNat 64)))), (13, .int .u64 ((IntKind.u64.wrap (a1 * 2 ^ min (IntKind.u64.wrap v5).toNat 64)).fdiv 4294967296)), (14, .int .u64 (ibits BinOp.and IntKind.u64 (IntKind.u64.wrap (a1 * 2 ^ min (IntKind.u64.wrap v5).toNat 64)) 4294967295)), (15, .int .u64 (v7.fst)), (16, .int .u64 (v7.snd))], [], 0, [], []⟩)) (W.bindE h) (Weak.a ?_) (fun v6 J_ Q h => ?_) (fun v7 h => ?_)
        · conv => whnf
          exact ⟨rfl, rfl, rfl, rfl, rfl⟩
        · conv => whnf
          refine ASeq.go tab_ok mixed_ ?_
          conv => whnf
          refine XSplit.mk (fun e => ?_) (fun e => ?_)
          · replace h := XSplit.t h e
            conv => whnf
            refine XSplit.mk (fun e => ?_) (fun e => ?_)
            · replace h := XSplit.t h e
              conv => whnf
              refine ⟨_, ?_, Weak.a ?_, h⟩; exact rfl; (conv => whnf); exact ⟨rfl, rfl, rfl, rfl, rfl⟩
            · replace h := XSplit.f h e
              conv => whnf
              refine ⟨_, Weak.a ?_, h⟩; (conv => whnf); exact ⟨rfl, rfl, rfl, rfl, rfl⟩
          · replace h := XSplit.f h e
            conv => whnf
            refine ⟨_, ?_, Weak.a ?_, h⟩; exact rfl; (conv => whnf); exact ⟨rfl, rfl, rfl, rfl, rfl⟩
        · conv => whnf
          refine XNeed.mk (XNeed.c h) ?_; replace h := XNeed.x h
          conv => whnf
          refine ASeq.go tab_ok mixed_ ?_
          conv => whnf
          refine ALoop.ofW tab_ok mixed_ (fun v8 => ⟨[(2, .int .u64 (IntKind.u64.wrap (a2 * 2 ^ min (IntKind.u64.wrap v5).toNat 64))), (6, .int .u64 (0)), (7, .int .u64 (0)), (8, .int .u64 (IntKind.u64.wrap v5)), (9, .int .u64 ((IntKind.u64.wrap (a2 * 2 ^ min (IntKind.u64.wrap v5).toNat 64)).fdiv 4294967296)), (10, .int .u64 (ibits BinOp.and IntKind.u64 (IntKind.u64.wrap (a2 * 2 ^ min (IntKind.u64.wrap v5).toNat 64)) 4294967295)), (14, .int .u64 (ibits BinOp.and IntKind.u64 (IntKind.u64.wrap (a1 * 2 ^ min (IntKind.u64.wrap v5).toNat 64)) 4294967295)), (15, .int .u64 (v7.fst)), (16, .int .u64 (v8.fst)), (17, .int .u64 (IntKind.u64.wrap (IntKind.u64.wrap (IntKind.u64.wrap (ibits BinOp.or IntKind.u64 (IntKind.u64.wrap (a0 * 2 ^ min (IntKind.u64.wrap v5).toNat 64)) (a1.fdiv (2 ^ min (IntKind.u64.wrap (64 - IntKind.u64.wrap v5)).toNat 64)) * 4294967296) + (IntKind.u64.wrap (a1 * 2 ^ min (IntKind.u64.wrap v5).toNat 64)).fdiv 4294967296) - IntKind.u64.wrap (v7.fst * IntKind.u64.wrap (a2 * 2 ^ min (IntKind.u64.wrap v5).toNat 64))))), (18, .int .u64 (v8.snd))], [], 0, [], []⟩) (fun v9 => (.exit 2, ⟨[(2, .int .u64 (IntKind.u64.wrap (a2 * 2 ^ min (IntKind.u64.wrap v5).toNat 64))), (6, .int .u64 (0)), (7, .int .u64 (0)), (8, .int .u64 (IntKind.u64.wrap v5)), (14, .int .u64 (ibits BinOp.and IntKind.u64 (IntKind.u64.wrap (a1 * 2 ^ min (IntKind.u64.wrap v5).toNat 64)) 4294967295)), (15, .int .u64 (v7.fst)), (17, .int .u64 (IntKind.u64.wrap (IntKind.u64.wrap (IntKind.u64.wrap (ibits BinOp.or IntKind.u64 (IntKind.u64.wrap (a0 * 2 ^ min (IntKind.u64.wrap v5).toNat 64)) (a1.fdiv (2 ^ min (IntKind.u64.wrap (64 - IntKind.u64.wrap v5)).toNat 64)) * 4294967296) + (IntKind.u64.wrap (a1 * 2 ^ min (IntKind.u64.wrap v5).toNat 64)).fdiv 4294967296) - IntKind.u64.wrap (v7.fst * IntKind.u64.wrap (a2 * 2 ^ min (IntKind.u64.wrap v5).toNat 64))))), (18, .int .u64 (v9))], [], 0, [], []⟩)) (W.bindE h) (Weak.a ?_) (fun v8 J_ Q h => ?_) (fun v9 h => ?_)
          · conv => whnf
            exact ⟨rfl, rfl, rfl, rfl, rfl⟩
          · conv => whnf
            refine ASeq.go tab_ok mixed_ ?_
            conv => whnf
            refine XSplit.mk (fun e => ?_) (fun e => ?_)
            · replace h := XSplit.t h e
              conv => whnf
              refine XSplit.mk (fun e => ?_) (fun e => ?_)
              · replace h := XSplit.t h e
                conv => whnf
                refine ⟨_, ?_, Weak.a ?_, h⟩; exact rfl; (conv => whnf); exact ⟨rfl, rfl, rfl, rfl, rfl⟩
              · replace h := XSplit.f h e
                conv => whnf
                refine ⟨_, Weak.a ?_, h⟩; (conv => whnf); exact ⟨rfl, rfl, rfl, rfl, rfl⟩
            · replace h := XSplit.f h e
              conv => whnf
              refine ⟨_, ?_, Weak.a ?_, h⟩; exact rfl; (conv => whnf); exact ⟨rfl, rfl, rfl, rfl, rfl⟩
          · conv => whnf
            refine XNeed.mk (XNeed.c h) ?_; replace h := XNeed.x h
            conv => whnf
            refine ⟨_, Weak.a ?_, ?_, h⟩; (conv => whnf); exact ⟨rfl, rfl, rfl, rfl, rfl⟩; exact rfl
theorem c_fixq_Mean {a0 : Int} {a1 : Int} {Q : Int × Int → Prop} {R : AV → List AB → Prop} (h : (g_fixq_Mean a0 a1).run Q) (k : ∀ r, Q r → R (.tup [.int .i64 (r.fst), .int .i64 (r.snd)]) ([])) : ACalls Try.prog tab 29 [.int .i64 (a0), .int .i64 (a1)] [] R := by
  refine ACalls.out (fun r => .tup [.int .i64 (r.fst), .int .i64 (r.snd)]) (fun r => []) (Q := Q) (ACalls.introX (mv := mv) tab_ok mixed_ (fn := Try.f29) (by kernel_rfl) rfl (by kernel_rfl) (by kernel_rfl) (leB rfl) ?_) (fun v => by first | exact ⟨rfl, leB rfl⟩ | (cases v <;> exact ⟨rfl, leB rfl⟩)) k
  conv => whnf
  refine ASeq.go tab_ok mixed_ ?_
  conv => whnf
  refine XSplit.mk (fun e => ?_) (fun e => ?_)
  · replace h := XSplit.t h e
    conv => whnf
    refine ⟨_, Weak.a ?_, ?_, h⟩; (conv => whnf); exact ⟨rfl, rfl, rfl, rfl, rfl⟩; exact rfl
  · replace h := XSplit.f h e
    conv => whnf
    refine ACalls.inn (c_fixq_magnitude (W.bindE h) (fun v6 h => ?_)) ⟨rfl, rfl⟩
    conv => whnf
    refine ACalls.inn (c_math_bits_Mul64 (W.bindE h) (fun v7 h => ?_)) ⟨rfl, rfl⟩
    conv => whnf
    refine ACalls.inn (c_math_bits_Add64 (W.bindE h) (fun v8 h => ?_)) ⟨rfl, rfl⟩
    conv => whnf
    refine XNeed.mk (XNeed.c h) ?_; replace h := XNeed.x h
    conv => whnf
    refine ACalls.inn (c_math_bits_Div64 (W.bindE h) (fun v9 h => ?_)) ⟨rfl, rfl⟩
    conv => whnf
    refine ASeq.go tab_ok mixed_ ?_
    conv => whnf
    refine XSplit.mk (fun e => ?_) (fun e => ?_)
    · replace h := XSplit.t h e
      conv => whnf
      refine ACalls.inn (c_fixq_signed (W.bindE h) (fun v10 h => ?_)) ⟨rfl, rfl⟩
      conv => whnf
      refine ⟨_, Weak.a ?_, ?_, h⟩; (conv => whnf); exact ⟨rfl, rfl, rfl, rfl, rfl⟩; exact rfl
    · replace h := XSplit.f h e
      conv => whnf
      refine XNeed.mk (of_decide_eq_true rfl) ?_
      conv => whnf
      refine ACalls.inn (c_fixq_signed (W.bindE h) (fun v11 h => ?_)) ⟨rfl, rfl⟩
      conv => whnf
      refine ⟨_, Weak.a ?_, ?_, h⟩; (conv => whnf); exact ⟨rfl, rfl, rfl, rfl, rfl⟩; exact rfl
theorem c_num_Add {a0 : Int} {a1 : Int} {Q : Int × Int → Prop} {R : AV → List AB → Prop} (h : (g_num_Add a0 a1).run Q) (k : ∀ r, Q r → R (.tup [.int .i64 (r.fst), .int .i64 (r.snd)]) ([])) : ACalls Try.prog tab 51 [.int .i64 (a0), .int .i64 (a1)] [] R := by
  refine ACalls.out (fun r => .tup [.int .i64 (r.fst), .int .i64 (r.snd)]) (fun r => []) (Q := Q) (ACalls.introX (mv := mv) tab_ok mixed_ (fn := Try.f51) (by kernel_rfl) rfl (by kernel_rfl) (by kernel_rfl) (leB rfl) ?_) (fun v => by first | exact ⟨rfl, leB rfl⟩ | (cases v <;> exact ⟨rfl, leB rfl⟩)) k
  conv => whnf
  refine ASeq.go tab_ok mixed_ ?_
  conv => whnf
  refine XSplit.mk (fun e => ?_) (fun e => ?_)
  · replace h := XSplit.t h e
    conv => whnf
    refine ⟨_, Weak.a ?_, ?_, h⟩; (conv => whnf); exact ⟨rfl, rfl, rfl, rfl, rfl⟩; exact rfl
  · replace h := XSplit.f h e
    conv => whnf
    refine ⟨_, Weak.a ?_, ?_, h⟩; (conv => whnf); exact ⟨rfl, rfl, rfl, rfl, rfl⟩; exact rfl
theorem c_span_Add {a0 : Int} {a1 : Int} {a2 : Int} {a3 : Int} {Q : Int × Int × Int → Prop} {R : AV → List AB → Prop} (h : (g_span_Add a0 a1 a2 a3).run Q) (k : ∀ r, Q r → R (.tup [.agg [.int .i64 (r.fst), .int .i64 (r.snd.fst)], .int .i64 (r.snd.snd)]) ([])) : ACalls Try.prog tab 30 [.agg [.int .i64 (a0), .int .i64 (a1)], .agg [.int .i64 (a2), .int .i64 (a3)]] [] R := by
  refine ACalls.out (fun r => .tup [.agg [.int .i64 (r.fst), .int .i64 (r.snd.fst)], .int .i64 (r.snd.snd)]) (fun r => []) (Q := Q) (ACalls.introX (mv := mv) tab_ok mixed_ (fn := Try.f30) (by kernel_rfl) rfl (by kernel_rfl) (by kernel_rfl) (leB rfl) ?_) (fun v => by first | exact ⟨rfl, leB rfl⟩ | (cases v <;> exact ⟨rfl, leB rfl⟩)) k
  conv => whnf
  refine ASeq.go tab_ok mixed_ ?_
  conv => whnf
  refine ASeq.joinW tab_ok mixed_ (fun v6 => ⟨[(2, .ptr 0 0), (3, .ptr 1 0), (4, .ptr 2 0), (5, .int .i64 (0)), (17, .bool (v6))], [(0, .box 31 [.int .i64 (a0), .int .i64 (a1)]), (1, .box 31 [.int .i64 (a2), .int .i64 (a3)]), (2, .box 31 [.int .i64 (0), .int .i64 (0)])], 3, [], []⟩) h (fun Q h => ?_) (fun v6 h => ?_)
  · conv => whnf
    refine ACalls.inn (c_span_Valid (W.bindE h) (fun v7 h => ?_)) ⟨rfl, rfl⟩
    conv => whnf
    refine XSplit.mk (fun e => ?_) (fun e => ?_)
    · replace h := XSplit.t h e
      conv => whnf
      refine ⟨_, Weak.a ?_, h⟩; (conv => whnf); exact ⟨rfl, rfl, rfl, rfl, rfl⟩
    · replace h := XSplit.f h e
      conv => whnf
      refine ACalls.inn (c_span_Valid (W.bindE h) (fun v8 h => ?_)) ⟨rfl, rfl⟩
      conv => whnf
      refine ⟨_, Weak.a ?_, h⟩; (conv => whnf); exact ⟨rfl, rfl, rfl, rfl, rfl⟩
  · conv => whnf
    refine XSplit.mk (fun e => ?_) (fun e => ?_)
    · replace h := XSplit.t h e
      conv => whnf
      refine ⟨_, Weak.a ?_, ?_, h⟩; (conv => whnf); exact ⟨rfl, rfl, rfl, rfl, rfl⟩; exact rfl
    · replace h := XSplit.f h e
      conv => whnf
      refine ACalls.inn (c_num_Add (W.bindE h) (fun v9 h => ?_)) ⟨rfl, rfl⟩
      conv => whnf
      refine ACalls.inn (c_num_Add (W.bindE h) (fun v10 h => ?_)) ⟨rfl, rfl⟩
      conv => whnf
      refine ACalls.inn (c_span_pair (W.bindE h) (fun v11 h => ?_)) ⟨rfl, rfl⟩
      conv => whnf
      refine ⟨_, Weak.a ?_, ?_, h⟩; (conv => whnf); exact ⟨rfl, rfl, rfl, rfl, rfl⟩; exact rfl
theorem c_flow_comes {a0 : Int} {a1 : Int} {a2 : Int} {a3 : Int} {a4 : Int} {a5 : Bool} {a6 : Rws} {a7 : Int} {a8 : Int} {a9 : Int} {a10 : Int} {a11 : Int} {a12 : Int} {Q : Int × Int → Prop} {R : AV → List AB → Prop} (h : (g_flow_comes a0 a1 a2 a3 a4 a5 a6 a7 a8 a9 a10 a11 a12).run Q) (k : ∀ r, Q r → R (.agg [.int .i64 (r.fst), .int .i64 (r.snd)]) ([])) : ACalls Try.prog tab 15 [.agg [.int .i64 (a0), .int .i64 (a1), .int .i64 (a2), .int .i64 (a3), .int .i64 (a4), .sl (a5) 45 (a6), .int .i64 (a7)], .int .i64 (a8), .agg [.int .i64 (a9), .int .i64 (a10)], .agg [.int .i64 (a11), .int .i64 (a12)]] [] R := by
  refine ACalls.out (fun r => .agg [.int .i64 (r.fst), .int .i64 (r.snd)]) (fun r => []) (Q := Q) (ACalls.introX (mv := mv) tab_ok mixed_ (fn := Try.f15) (by kernel_rfl) rfl (by kernel_rfl) (by kernel_rfl) (leB rfl) ?_) (fun v => by first | exact ⟨rfl, leB rfl⟩ | (cases v <;> exact ⟨rfl, leB rfl⟩)) k
  conv => whnf
  refine XNeed.mk (XNeed.c h) ?_; replace h := XNeed.x h
  conv => whnf
  refine ASeq.joinW tab_ok mixed_ (fun v12 => ⟨[(6, .ptr 0 0), (8, .ptr 1 0)], [(0, .box 31 [.int .i64 (v12.fst), .int .i64 (v12.snd)]), (1, .box 31 [.int .i64 (0), .int .i64 (0)])], 2, [], []⟩) h (fun Q h => ?_) (fun v12 h => ?_)
  · conv => whnf
    refine ASeq.go tab_ok mixed_ ?_
    conv => whnf
    refine ASeq.go tab_ok mixed_ ?_
    conv => whnf
    refine ASeq.joinE tab_ok mixed_ (fun v13 => ⟨[(6, .ptr 0 0), (8, .ptr 1 0), (9, .ptr 2 0)], [(0, .box 31 [.int .i64 (v13.fst), .int .i64 (v13.snd)]), (1, .box 31 [.int .i64 (0), .int .i64 (0)]), (2, .box 45 [.int .i64 (ri a6 (IntKind.i64.wrap (a8 - 1)).toNat 0), .int .i64 (ri a6 (IntKind.i64.wrap (a8 - 1)).toNat 1), .int .i64 (ri a6 (IntKind.i64.wrap (a8 - 1)).toNat 2), .int .i64 (ri a6 (IntKind.i64.wrap (a8 - 1)).toNat 3), .int .i64 (ri a6 (IntKind.i64.wrap (a8 - 1)).toNat 4), .int .i64 (ri a6 (IntKind.i64.wrap (a8 - 1)).toNat 5), .int .i64 (ri a6 (IntKind.i64.wrap (a8 - 1)).toNat 6), .int .i64 (ri a6 (IntKind.i64.wrap (a8 - 1)).toNat 7), .int .i64 (ri a6 (IntKind.i64.wrap (a8 - 1)).toNat 8), .int .i64 (ri a6 (IntKind.i64.wrap (a8 - 1)).toNat 9), .int .i64 (ri a6 (IntKind.i64.wrap (a8 - 1)).toNat 10), .int .i64 (ri a6 (IntKind.i64.wrap (a8 - 1)).toNat 11), .sl (rn a6 (IntKind.i64.wrap (a8 - 1)).toNat 12) 74 (rr a6 (IntKind.i64.wrap (a8 - 1)).toNat 12), .sl (rn a6 (IntKind.i64.wrap (a8 - 1)).toNat 13) 21 (rr a6 (IntKind.i64.wrap (a8 - 1)).toNat 13), .int .i64 (ri a6 (IntKind.i64.wrap (a8 - 1)).toNat 14), .int .i64 (ri a6 (IntKind.i64.wrap (a8 - 1)).toNat 15), .int .i64 (ri a6 (IntKind.i64.wrap (a8 - 1)).toNat 16), .int .i64 (ri a6 (IntKind.i64.wrap (a8 - 1)).toNat 17), .int .i64 (ri a6 (IntKind.i64.wrap (a8 - 1)).toNat 18), .int .i64 (ri a6 (IntKind.i64.wrap (a8 - 1)).toNat 19), .int .i64 (ri a6 (IntKind.i64.wrap (a8 - 1)).toNat 20), .int .i64 (ri a6 (IntKind.i64.wrap (a8 - 1)).toNat 21)])], 3, [], []⟩) h (fun Q h => ?_) (fun v13 h => ?_)
    · conv => whnf
      refine ASeq.go tab_ok mixed_ ?_
      conv => whnf
      refine ASeq.go tab_ok mixed_ ?_
      conv => whnf
      refine ASeq.go tab_ok mixed_ ?_
      conv => whnf
      refine ASeq.joinW tab_ok mixed_ (fun v14 => ⟨[(1, .int .i64 (a8)), (4, .ptr 0 0), (6, .ptr 1 0), (7, .ptr 2 0), (8, .ptr 3 0), (9, .ptr 4 0), (19, .int .i64 (ri a6 (IntKind.i64.wrap (a8 - 1)).toNat 0)), (20, .bool (v14))], [(0, .box 26 [.int .i64 (a0), .int .i64 (a1), .int .i64 (a2), .int .i64 (a3), .int .i64 (a4), .sl (a5) 45 (a6), .int .i64 (a7)]), (1, .box 31 [.int .i64 (a9), .int .i64 (a10)]), (2, .box 31 [.int .i64 (a11), .int .i64 (a12)]), (3, .box 31 [.int .i64 (0), .int .i64 (0)]), (4, .box 45 [.int .i64 (ri a6 (IntKind.i64.wrap (a8 - 1)).toNat 0), .int .i64 (ri a6 (IntKind.i64.wrap (a8 - 1)).toNat 1), .int .i64 (ri a6 (IntKind.i64.wrap (a8 - 1)).toNat 2), .int .i64 (ri a6 (IntKind.i64.wrap (a8 - 1)).toNat 3), .int .i64 (ri a6 (IntKind.i64.wrap (a8 - 1)).toNat 4), .int .i64 (ri a6 (IntKind.i64.wrap (a8 - 1)).toNat 5), .int .i64 (ri a6 (IntKind.i64.wrap (a8 - 1)).toNat 6), .int .i64 (ri a6 (IntKind.i64.wrap (a8 - 1)).toNat 7), .int .i64 (ri a6 (IntKind.i64.wrap (a8 - 1)).toNat 8), .int .i64 (ri a6 (IntKind.i64.wrap (a8 - 1)).toNat 9), .int .i64 (ri a6 (IntKind.i64.wrap (a8 - 1)).toNat 10), .int .i64 (ri a6 (IntKind.i64.wrap (a8 - 1)).toNat 11), .sl (rn a6 (IntKind.i64.wrap (a8 - 1)).toNat 12) 74 (rr a6 (IntKind.i64.wrap (a8 - 1)).toNat 12), .sl (rn a6 (IntKind.i64.wrap (a8 - 1)).toNat 13) 21 (rr a6 (IntKind.i64.wrap (a8 - 1)).toNat 13), .int .i64 (ri a6 (IntKind.i64.wrap (a8 - 1)).toNat 14), .int .i64 (ri a6 (IntKind.i64.wrap (a8 - 1)).toNat 15), .int .i64 (ri a6 (IntKind.i64.wrap (a8 - 1)).toNat 16), .int .i64 (ri a6 (IntKind.i64.wrap (a8 - 1)).toNat 17), .int .i64 (ri a6 (IntKind.i64.wrap (a8 - 1)).toNat 18), .int .i64 (ri a6 (IntKind.i64.wrap (a8 - 1)).toNat 19), .int .i64 (ri a6 (IntKind.i64.wrap (a8 - 1)).toNat 20), .int .i64 (ri a6 (IntKind.i64.wrap (a8 - 1)).toNat 21)])], 5, [], []⟩) h (fun Q h => ?_) (fun v14 h => ?_)
      · conv => whnf
        refine XSplit.mk (fun e => ?_) (fun e => ?_)
        · replace h := XSplit.t h e
          conv => whnf
          refine ⟨_, Weak.a ?_, h⟩; (conv => whnf); exact ⟨rfl, rfl, rfl, rfl, rfl⟩
        · replace h := XSplit.f h e
          conv => whnf
          refine XSplit.mk (fun e => ?_) (fun e => ?_)
          · replace h := XSplit.t h e
            conv => whnf
            refine ⟨_, Weak.a ?_, h⟩; (conv => whnf); exact ⟨rfl, rfl, rfl, rfl, rfl⟩
          · replace h := XSplit.f h e
            conv => whnf
            refine ⟨_, Weak.a ?_, h⟩; (conv => whnf); exact ⟨rfl, rfl, rfl, rfl, rfl⟩
      · conv => whnf
        refine XSplit.mk (fun e => ?_) (fun e => ?_)
        · replace h := XSplit.t h e
          conv => whnf
          refine ACalls.inn (c_flow_totals (W.bindE h) (fun v15 h => ?_)) ⟨rfl, rfl⟩
          conv => whnf
          refine ⟨_, Weak.a ?_, h⟩; (conv => whnf); exact ⟨rfl, rfl, rfl, rfl, rfl⟩
        · replace h := XSplit.f h e
          conv => whnf
          refine ASeq.go tab_ok mixed_ ?_
          conv => whnf
          refine XSplit.mk (fun e => ?_) (fun e => ?_)
          · replace h := XSplit.t h e
            conv => whnf
            refine ⟨_, Weak.a ?_, h⟩; (conv => whnf); exact ⟨rfl, rfl, rfl, rfl, rfl⟩
          · replace h := XSplit.f h e
            conv => whnf
            refine ASeq.go tab_ok mixed_ ?_
            conv => whnf
            refine XSplit.mk (fun e => ?_) (fun e => ?_)
            · replace h := XSplit.t h e
              conv => whnf
              refine ACalls.inn (c_terms_Length (W.bindE h) (fun v16 h => ?_)) ⟨rfl, rfl⟩
              conv => whnf
              refine ACalls.inn (c_flow_totals (W.bindE h) (fun v17 h => ?_)) ⟨rfl, rfl⟩
              conv => whnf
              refine ACalls.inn (c_fixq_Mean (W.bindE h) (fun v18 h => ?_)) ⟨rfl, rfl⟩
              conv => whnf
              refine ACalls.inn (c_fixq_Mean (W.bindE h) (fun v19 h => ?_)) ⟨rfl, rfl⟩
              conv => whnf
              refine ⟨_, Weak.a ?_, h⟩; (conv => whnf); exact ⟨rfl, rfl, rfl, rfl, rfl⟩
            · replace h := XSplit.f h e
              conv => whnf
              refine XSplit.mk (fun e => ?_) (fun e => ?_)
              · replace h := XSplit.t h e
                conv => whnf
                refine ACalls.inn (c_span_Scaled (W.bindE h) (fun v20 h => ?_)) ⟨rfl, rfl⟩
                conv => whnf
                refine ACalls.inn (c_span_Scaled (W.bindE h) (fun v21 h => ?_)) ⟨rfl, rfl⟩
                conv => whnf
                refine ACalls.inn (c_span_Add (W.bindE h) (fun v22 h => ?_)) ⟨rfl, rfl⟩
                conv => whnf
                refine ⟨_, Weak.a ?_, h⟩; (conv => whnf); exact ⟨rfl, rfl, rfl, rfl, rfl⟩
              · replace h := XSplit.f h e
                conv => whnf
                refine ⟨_, Weak.a ?_, h⟩; (conv => whnf); exact ⟨rfl, rfl, rfl, rfl, rfl⟩
    · conv => whnf
      refine ACalls.inn (c_span_Scaled (W.bindE h) (fun v23 h => ?_)) ⟨rfl, rfl⟩
      conv => whnf
      refine ⟨_, Weak.a ?_, h⟩; (conv => whnf); exact ⟨rfl, rfl, rfl, rfl, rfl⟩
  · conv => whnf
    refine ⟨_, Weak.a ?_, ?_, h⟩; (conv => whnf); exact ⟨rfl, rfl, rfl, rfl, rfl⟩; exact rfl
theorem c_num_Fits_int8_ {a0 : Int} {Q : Bool → Prop} {R : AV → List AB → Prop} (h : (g_num_Fits_int8_ a0).run Q) (k : ∀ r, Q r → R (.bool (r)) ([])) : ACalls Try.prog tab 52 [.int .i64 (a0)] [] R := by
  refine ACalls.out (fun r => .bool (r)) (fun r => []) (Q := Q) (ACalls.introX (mv := mv) tab_ok mixed_ (fn := Try.f52) (by kernel_rfl) rfl (by kernel_rfl) (by kernel_rfl) (leB rfl) ?_) (fun v => by first | exact ⟨rfl, leB rfl⟩ | (cases v <;> exact ⟨rfl, leB rfl⟩)) k
  conv => whnf
  refine ⟨_, Weak.a ?_, ?_, h⟩; (conv => whnf); exact ⟨rfl, rfl, rfl, rfl, rfl⟩; exact rfl
theorem c_num_Fits_int16_ {a0 : Int} {Q : Bool → Prop} {R : AV → List AB → Prop} (h : (g_num_Fits_int16_ a0).run Q) (k : ∀ r, Q r → R (.bool (r)) ([])) : ACalls Try.prog tab 74 [.int .i64 (a0)] [] R := by
  refine ACalls.out (fun r => .bool (r)) (fun r => []) (Q := Q) (ACalls.introX (mv := mv) tab_ok mixed_ (fn := Try.f74) (by kernel_rfl) rfl (by kernel_rfl) (by kernel_rfl) (leB rfl) ?_) (fun v => by first | exact ⟨rfl, leB rfl⟩ | (cases v <;> exact ⟨rfl, leB rfl⟩)) k
  conv => whnf
  refine ⟨_, Weak.a ?_, ?_, h⟩; (conv => whnf); exact ⟨rfl, rfl, rfl, rfl, rfl⟩; exact rfl
theorem c_num_Sat_int16_ {a0 : Int} {Q : Int → Prop} {R : AV → List AB → Prop} (h : (g_num_Sat_int16_ a0).run Q) (k : ∀ r, Q r → R (.int .i16 (r)) ([])) : ACalls Try.prog tab 53 [.int .i64 (a0)] [] R := by
  refine ACalls.out (fun r => .int .i16 (r)) (fun r => []) (Q := Q) (ACalls.introX (mv := mv) tab_ok mixed_ (fn := Try.f53) (by kernel_rfl) rfl (by kernel_rfl) (by kernel_rfl) (leB rfl) ?_) (fun v => by first | exact ⟨rfl, leB rfl⟩ | (cases v <;> exact ⟨rfl, leB rfl⟩)) k
  conv => whnf
  refine ASeq.go tab_ok mixed_ ?_
  conv => whnf
  refine ACalls.inn (c_num_Fits_int16_ (W.bindE h) (fun v1 h => ?_)) ⟨rfl, rfl⟩
  conv => whnf
  refine XSplit.mk (fun e => ?_) (fun e => ?_)
  · replace h := XSplit.t h e
    conv => whnf
    refine ⟨_, Weak.a ?_, ?_, h⟩; (conv => whnf); exact ⟨rfl, rfl, rfl, rfl, rfl⟩; exact rfl
  · replace h := XSplit.f h e
    conv => whnf
    refine ASeq.go tab_ok mixed_ ?_
    conv => whnf
    refine XNeed.mk (of_decide_eq_true rfl) ?_
    conv => whnf
    refine ALoop.unroll tab_ok mixed_ (kn := fun st => ALoop Try.prog tab _ _ _ _ st _) (fun _ h => h) ?_
    conv => whnf
    refine ASeq.go tab_ok mixed_ ?_
    conv => whnf
    refine XSplit.tt rfl ?_
    conv => whnf
    refine ASeq.go tab_ok mixed_ ?_
    conv => whnf
    refine XNeed.mk (of_decide_eq_true rfl) ?_
    conv => whnf
    refine ALoop.unroll tab_ok mixed_ (kn := fun st => ALoop Try.prog tab _ _ _ _ st _) (fun _ h => h) ?_
    conv => whnf
    refine ASeq.go tab_ok mixed_ ?_
    conv => whnf
    refine XSplit.tt rfl ?_
    conv => whnf
    refine ASeq.go tab_ok mixed_ ?_
    conv => whnf
    refine XNeed.mk (of_decide_eq_true rfl) ?_
    conv => whnf
    refine ALoop.unroll tab_ok mixed_ (kn := fun st => ALoop Try.prog tab _ _ _ _ st _) (fun _ h => h) ?_
    conv => whnf
    refine ASeq.go tab_ok mixed_ ?_
    conv => whnf
    refine XSplit.tt rfl ?_
    conv => whnf
    refine ASeq.go tab_ok mixed_ ?_
    conv => whnf
    refine XNeed.mk (of_decide_eq_true rfl) ?_
    conv => whnf
    refine ALoop.unroll tab_ok mixed_ (kn := fun st => ALoop Try.prog tab _ _ _ _ st _) (fun _ h => h) ?_
    conv => whnf
    refine ASeq.go tab_ok mixed_ ?_
    conv => whnf
    refine XSplit.tt rfl ?_
    conv => whnf
    refine ASeq.go tab_ok mixed_ ?_
    conv => whnf
    refine XNeed.mk (of_decide_eq_true rfl) ?_
    conv => whnf
    refine ALoop.unroll tab_ok mixed_ (kn := fun st => ALoop Try.prog tab _ _ _ _ st _) (fun _ h => h) ?_
    conv => whnf
    refine ASeq.go tab_ok mixed_ ?_
    conv => whnf
    refine XSplit.tt rfl ?_
    conv => whnf
    refine ASeq.go tab_ok mixed_ ?_
    conv => whnf
    refine XNeed.mk (of_decide_eq_true rfl) ?_
    conv => whnf
    refine ALoop.unroll tab_ok mixed_ (kn := fun st => ALoop Try.prog tab _ _ _ _ st _) (fun _ h => h) ?_
    conv => whnf
    refine ASeq.go tab_ok mixed_ ?_
    conv => whnf
    refine XSplit.tt rfl ?_
    conv => whnf
    refine ASeq.go tab_ok mixed_ ?_
    conv => whnf
    refine XNeed.mk (of_decide_eq_true rfl) ?_
    conv => whnf
    refine ALoop.unroll tab_ok mixed_ (kn := fun st => ALoop Try.prog tab _ _ _ _ st _) (fun _ h => h) ?_
    conv => whnf
    refine ASeq.go tab_ok mixed_ ?_
    conv => whnf
    refine XSplit.tt rfl ?_
    conv => whnf
    refine ASeq.go tab_ok mixed_ ?_
    conv => whnf
    refine XNeed.mk (of_decide_eq_true rfl) ?_
    conv => whnf
    refine ALoop.unroll tab_ok mixed_ (kn := fun st => ALoop Try.prog tab _ _ _ _ st _) (fun _ h => h) ?_
    conv => whnf
    refine ASeq.go tab_ok mixed_ ?_
    conv => whnf
    refine XSplit.tt rfl ?_
    conv => whnf
    refine ASeq.go tab_ok mixed_ ?_
    conv => whnf
    refine XNeed.mk (of_decide_eq_true rfl) ?_
    conv => whnf
    refine ALoop.unroll tab_ok mixed_ (kn := fun st => ALoop Try.prog tab _ _ _ _ st _) (fun _ h => h) ?_
    conv => whnf
    refine ASeq.go tab_ok mixed_ ?_
    conv => whnf
    refine XSplit.tt rfl ?_
    conv => whnf
    refine ASeq.go tab_ok mixed_ ?_
    conv => whnf
    refine XNeed.mk (of_decide_eq_true rfl) ?_
    conv => whnf
    refine ALoop.unroll tab_ok mixed_ (kn := fun st => ALoop Try.prog tab _ _ _ _ st _) (fun _ h => h) ?_
    conv => whnf
    refine ASeq.go tab_ok mixed_ ?_
    conv => whnf
    refine XSplit.tt rfl ?_
    conv => whnf
    refine ASeq.go tab_ok mixed_ ?_
    conv => whnf
    refine XNeed.mk (of_decide_eq_true rfl) ?_
    conv => whnf
    refine ALoop.unroll tab_ok mixed_ (kn := fun st => ALoop Try.prog tab _ _ _ _ st _) (fun _ h => h) ?_
    conv => whnf
    refine ASeq.go tab_ok mixed_ ?_
    conv => whnf
    refine XSplit.tt rfl ?_
    conv => whnf
    refine ASeq.go tab_ok mixed_ ?_
    conv => whnf
    refine XNeed.mk (of_decide_eq_true rfl) ?_
    conv => whnf
    refine ALoop.unroll tab_ok mixed_ (kn := fun st => ALoop Try.prog tab _ _ _ _ st _) (fun _ h => h) ?_
    conv => whnf
    refine ASeq.go tab_ok mixed_ ?_
    conv => whnf
    refine XSplit.tt rfl ?_
    conv => whnf
    refine ASeq.go tab_ok mixed_ ?_
    conv => whnf
    refine XNeed.mk (of_decide_eq_true rfl) ?_
    conv => whnf
    refine ALoop.unroll tab_ok mixed_ (kn := fun st => ALoop Try.prog tab _ _ _ _ st _) (fun _ h => h) ?_
    conv => whnf
    refine ASeq.go tab_ok mixed_ ?_
    conv => whnf
    refine XSplit.tt rfl ?_
    conv => whnf
    refine ASeq.go tab_ok mixed_ ?_
    conv => whnf
    refine XNeed.mk (of_decide_eq_true rfl) ?_
    conv => whnf
    refine ALoop.unroll tab_ok mixed_ (kn := fun st => ALoop Try.prog tab _ _ _ _ st _) (fun _ h => h) ?_
    conv => whnf
    refine ASeq.go tab_ok mixed_ ?_
    conv => whnf
    refine XSplit.tt rfl ?_
    conv => whnf
    refine ASeq.go tab_ok mixed_ ?_
    conv => whnf
    refine XNeed.mk (of_decide_eq_true rfl) ?_
    conv => whnf
    refine ALoop.unroll tab_ok mixed_ (kn := fun st => ALoop Try.prog tab _ _ _ _ st _) (fun _ h => h) ?_
    conv => whnf
    refine ASeq.go tab_ok mixed_ ?_
    conv => whnf
    refine XSplit.ff rfl ?_
    conv => whnf
    refine ASeq.go tab_ok mixed_ ?_
    conv => whnf
    refine XSplit.mk (fun e => ?_) (fun e => ?_)
    · replace h := XSplit.t h e
      conv => whnf
      refine ⟨_, Weak.a ?_, ?_, h⟩; (conv => whnf); exact ⟨rfl, rfl, rfl, rfl, rfl⟩; exact rfl
    · replace h := XSplit.f h e
      conv => whnf
      refine ⟨_, Weak.a ?_, ?_, h⟩; (conv => whnf); exact ⟨rfl, rfl, rfl, rfl, rfl⟩; exact rfl
theorem c_num_Clamp {a0 : Int} {a1 : Int} {a2 : Int} {Q : Int → Prop} {R : AV → List AB → Prop} (h : (g_num_Clamp a0 a1 a2).run Q) (k : ∀ r, Q r → R (.int .i64 (r)) ([])) : ACalls Try.prog tab 54 [.int .i64 (a0), .int .i64 (a1), .int .i64 (a2)] [] R := by
  refine ACalls.out (fun r => .int .i64 (r)) (fun r => []) (Q := Q) (ACalls.introX (mv := mv) tab_ok mixed_ (fn := Try.f54) (by kernel_rfl) rfl (by kernel_rfl) (by kernel_rfl) (leB rfl) ?_) (fun v => by first | exact ⟨rfl, leB rfl⟩ | (cases v <;> exact ⟨rfl, leB rfl⟩)) k
  conv => whnf
  refine ASeq.go tab_ok mixed_ ?_
  conv => whnf
  refine XSplit.mk (fun e => ?_) (fun e => ?_)
  · replace h := XSplit.t h e
    conv => whnf
    refine ⟨_, Weak.a ?_, ?_, h⟩; (conv => whnf); exact ⟨rfl, rfl, rfl, rfl, rfl⟩; exact rfl
  · replace h := XSplit.f h e
    conv => whnf
    refine XSplit.mk (fun e => ?_) (fun e => ?_)
    · replace h := XSplit.t h e
      conv => whnf
      refine ⟨_, Weak.a ?_, ?_, h⟩; (conv => whnf); exact ⟨rfl, rfl, rfl, rfl, rfl⟩; exact rfl
    · replace h := XSplit.f h e
      conv => whnf
      refine ⟨_, Weak.a ?_, ?_, h⟩; (conv => whnf); exact ⟨rfl, rfl, rfl, rfl, rfl⟩; exact rfl
theorem c_fixq_Finish {a0 : Int} {a1 : Int} {a2 : Int} {a3 : Int} {Q : Int × Int → Prop} {R : AV → List AB → Prop} (h : (g_fixq_Finish a0 a1 a2 a3).run Q) (k : ∀ r, Q r → R (.tup [.int .i64 (r.fst), .int .i64 (r.snd)]) ([])) : ACalls Try.prog tab 31 [.int .i64 (a0), .int .i64 (a1), .int .i64 (a2), .int .i64 (a3)] [] R := by
  refine ACalls.out (fun r => .tup [.int .i64 (r.fst), .int .i64 (r.snd)]) (fun r => []) (Q := Q) (ACalls.introX (mv := mv) tab_ok mixed_ (fn := Try.f31) (by kernel_rfl) rfl (by kernel_rfl) (by kernel_rfl) (leB rfl) ?_) (fun v => by first | exact ⟨rfl, leB rfl⟩ | (cases v <;> exact ⟨rfl, leB rfl⟩)) k
  conv => whnf
  refine ASeq.go tab_ok mixed_ ?_
  conv => whnf
  refine ASeq.joinW tab_ok mixed_ (fun v4 => ⟨[(0, .int .i64 (a0)), (1, .int .i64 (a1)), (2, .int .i64 (a2)), (3, .int .i64 (a3)), (8, .int .i64 (0)), (9, .int .i64 (0)), (25, .bool (v4))], [], 0, [], []⟩) h (fun Q h => ?_) (fun v4 h => ?_)
  · conv => whnf
    refine XSplit.mk (fun e => ?_) (fun e => ?_)
    · replace h := XSplit.t h e
      conv => whnf
      refine ⟨_, Weak.a ?_, h⟩; (conv => whnf); exact ⟨rfl, rfl, rfl, rfl, rfl⟩
    · replace h := XSplit.f h e
      conv => whnf
      refine ACalls.inn (c_num_Fits_int8_ (W.bindE h) (fun v5 h => ?_)) ⟨rfl, rfl⟩
      conv => whnf
      refine ⟨_, Weak.a ?_, h⟩; (conv => whnf); exact ⟨rfl, rfl, rfl, rfl, rfl⟩
  · conv => whnf
    refine XSplit.mk (fun e => ?_) (fun e => ?_)
    · replace h := XSplit.t h e
      conv => whnf
      refine ⟨_, Weak.a ?_, ?_, h⟩; (conv => whnf); exact ⟨rfl, rfl, rfl, rfl, rfl⟩; exact rfl
    · replace h := XSplit.f h e
      conv => whnf
      refine ACalls.inn (c_num_Sat_int16_ (W.bindE h) (fun v6 h => ?_)) ⟨rfl, rfl⟩
      conv => whnf
      refine ACalls.inn (c_num_Clamp (W.bindE h) (fun v7 h => ?_)) ⟨rfl, rfl⟩
      conv => whnf
      refine ⟨_, Weak.a ?_, ?_, h⟩; (conv => whnf); exact ⟨rfl, rfl, rfl, rfl, rfl⟩; exact rfl
theorem c_flow_home {a0 : Int} {a1 : Int} {a2 : Int} {a3 : Int} {a4 : Int} {a5 : Int} {a6 : Int} {a7 : Int} {a8 : Int} {a9 : Int} {a10 : Int} {a11 : Int} {a12 : Bool} {a13 : Rws} {a14 : Bool} {a15 : Rws} {a16 : Int} {a17 : Int} {a18 : Int} {a19 : Int} {a20 : Int} {a21 : Int} {a22 : Int} {a23 : Int} {a24 : Int} {Q : Int → Prop} {R : AV → List AB → Prop} (h : (g_flow_home a0 a1 a2 a3 a4 a5 a6 a7 a8 a9 a10 a11 a12 a13 a14 a15 a16 a17 a18 a19 a20 a21 a22 a23 a24).run Q) (k : ∀ r, Q r → R (.int .i64 (r)) ([])) : ACalls Try.prog tab 16 [.agg [.int .i64 (a0), .int .i64 (a1), .int .i64 (a2), .int .i64 (a3), .int .i64 (a4), .int .i64 (a5), .int .i64 (a6), .int .i64 (a7), .int .i64 (a8), .int .i64 (a9), .int .i64 (a10), .int .i64 (a11), .sl (a12) 74 (a13), .sl (a14) 21 (a15), .int .i64 (a16), .int .i64 (a17), .int .i64 (a18), .int .i64 (a19), .int .i64 (a20), .int .i64 (a21), .int .i64 (a22), .int .i64 (a23)], .int .i64 (a24)] [] R := by
  refine ACalls.out (fun r => .int .i64 (r)) (fun r => []) (Q := Q) (ACalls.introX (mv := mv) tab_ok mixed_ (fn := Try.f16) (by kernel_rfl) rfl (by kernel_rfl) (by kernel_rfl) (leB rfl) ?_) (fun v => by first | exact ⟨rfl, leB rfl⟩ | (cases v <;> exact ⟨rfl, leB rfl⟩)) k
  conv => whnf
  refine ACalls.inn (c_fixq_Finish (W.bindE h) (fun v1 h => ?_)) ⟨rfl, rfl⟩
  conv => whnf
  refine ⟨_, Weak.a ?_, ?_, h⟩; (conv => whnf); exact ⟨rfl, rfl, rfl, rfl, rfl⟩; exact rfl
theorem c_flow_Out {a0 : Int} {a1 : Int} {a2 : Int} {a3 : Int} {a4 : Int} {a5 : Bool} {a6 : Rws} {a7 : Int} {a8 : Int} {a9 : Bool} {a10 : Rws} {Q : Int × Int × Int → Prop} {R : AV → List AB → Prop} (h : (g_flow_Out a0 a1 a2 a3 a4 a5 a6 a7 a8 a9 a10).run Q) (k : ∀ r, Q r → R (.tup [.agg [.int .i64 (r.fst), .int .i64 (r.snd.fst)], .int .i64 (r.snd.snd)]) ([])) : ACalls Try.prog tab 8 [.agg [.int .i64 (a0), .int .i64 (a1), .int .i64 (a2), .int .i64 (a3), .int .i64 (a4), .sl (a5) 45 (a6), .int .i64 (a7)], .int .i64 (a8), .sl (a9) 31 (a10)] [] R := by
  refine ACalls.out (fun r => .tup [.agg [.int .i64 (r.fst), .int .i64 (r.snd.fst)], .int .i64 (r.snd.snd)]) (fun r => []) (Q := Q) (ACalls.introX (mv := mv) tab_ok mixed_ (fn := Try.f8) (by kernel_rfl) rfl (by kernel_rfl) (by kernel_rfl) (leB rfl) ?_) (fun v => by first | exact ⟨rfl, leB rfl⟩ | (cases v <;> exact ⟨rfl, leB rfl⟩)) k
  conv => whnf
  refine ASeq.go tab_ok mixed_ ?_
  conv => whnf
  refine ACalls.inn (c_model_Check (W.bindE h) (fun v8 h => ?_)) ⟨rfl, rfl⟩
  conv => whnf
  refine XSplit.mk (fun e => ?_) (fun e => ?_)
  · replace h := XSplit.t h e
    conv => whnf
    refine XDraw.d [0, 1, 2, 3, 4] [[], [], [], [1], []] (by decide +kernel) ?_
    conv => whnf
    refine ⟨_, Weak.a ?_, ?_, h⟩; (conv => whnf); exact ⟨rfl, rfl, rfl, rfl, rfl⟩; exact rfl
  · replace h := XSplit.f h e
    conv => whnf
    refine ASeq.go tab_ok mixed_ ?_
    conv => whnf
    refine XSplit.mk (fun e => ?_) (fun e => ?_)
    · replace h := XSplit.t h e
      conv => whnf
      refine ⟨_, Weak.a ?_, ?_, h⟩; (conv => whnf); exact ⟨rfl, rfl, rfl, rfl, rfl⟩; exact rfl
    · replace h := XSplit.f h e
      conv => whnf
      refine ASeq.go tab_ok mixed_ ?_
      conv => whnf
      refine XSplit.mk (fun e => ?_) (fun e => ?_)
      · replace h := XSplit.t h e
        conv => whnf
        refine ⟨_, Weak.a ?_, ?_, h⟩; (conv => whnf); exact ⟨rfl, rfl, rfl, rfl, rfl⟩; exact rfl
      · replace h := XSplit.f h e
        conv => whnf
        refine XNeed.mk (XNeed.c h) ?_; replace h := XNeed.x h
        conv => whnf
        refine ASeq.eff tab_ok mixed_ [0, 1, 2, 3, 4, 5, 6, 7, 8, 9] (.alt 10 (.alt 11 (.alt 12 (.alt 13 .done .stop) .stop) .stop) (.alt 11 (.alt 10 (.alt 12 (.alt 13 .done .stop) .stop) .stop) .stop)) (by decide +kernel) (st' := ⟨[(1, .int .i64 (a8)), (2, .sl (a9) 31 (a10)), (3, .ptr 0 0), (6, .ptr 1 0), (7, .int .i64 (0)), (9, .ptr 2 0), (10, .ptr 3 0), (11, .ptr 4 0)], [(0, .box 26 [.int .i64 (a0), .int .i64 (a1), .int .i64 (a2), .int .i64 (a3), .int .i64 (a4), .sl (a5) 45 (a6), .int .i64 (a7)]), (1, .box 31 [.int .i64 (0), .int .i64 (0)]), (2, .box 45 [.int .i64 (ri a6 (IntKind.i64.wrap (a8 - 1)).toNat 0), .int .i64 (ri a6 (IntKind.i64.wrap (a8 - 1)).toNat 1), .int .i64 (ri a6 (IntKind.i64.wrap (a8 - 1)).toNat 2), .int .i64 (ri a6 (IntKind.i64.wrap (a8 - 1)).toNat 3), .int .i64 (ri a6 (IntKind.i64.wrap (a8 - 1)).toNat 4), .int .i64 (ri a6 (IntKind.i64.wrap (a8 - 1)).toNat 5), .int .i64 (ri a6 (IntKind.i64.wrap (a8 - 1)).toNat 6), .int .i64 (ri a6 (IntKind.i64.wrap (a8 - 1)).toNat 7), .int .i64 (ri a6 (IntKind.i64.wrap (a8 - 1)).toNat 8), .int .i64 (ri a6 (IntKind.i64.wrap (a8 - 1)).toNat 9), .int .i64 (ri a6 (IntKind.i64.wrap (a8 - 1)).toNat 10), .int .i64 (ri a6 (IntKind.i64.wrap (a8 - 1)).toNat 11), .sl (rn a6 (IntKind.i64.wrap (a8 - 1)).toNat 12) 74 (rr a6 (IntKind.i64.wrap (a8 - 1)).toNat 12), .sl (rn a6 (IntKind.i64.wrap (a8 - 1)).toNat 13) 21 (rr a6 (IntKind.i64.wrap (a8 - 1)).toNat 13), .int .i64 (ri a6 (IntKind.i64.wrap (a8 - 1)).toNat 14), .int .i64 (ri a6 (IntKind.i64.wrap (a8 - 1)).toNat 15), .int .i64 (ri a6 (IntKind.i64.wrap (a8 - 1)).toNat 16), .int .i64 (ri a6 (IntKind.i64.wrap (a8 - 1)).toNat 17), .int .i64 (ri a6 (IntKind.i64.wrap (a8 - 1)).toNat 18), .int .i64 (ri a6 (IntKind.i64.wrap (a8 - 1)).toNat 19), .int .i64 (ri a6 (IntKind.i64.wrap (a8 - 1)).toNat 20), .int .i64 (ri a6 (IntKind.i64.wrap (a8 - 1)).toNat 21)]), (3, .box 31 [.int .i64 (ri a10 (ri a6 (IntKind.i64.wrap (a8 - 1)).toNat 1).toNat 0), .int .i64 (ri a10 (ri a6 (IntKind.i64.wrap (a8 - 1)).toNat 1).toNat 1)]), (4, .box 31 [.int .i64 (ri a10 (ri a6 (IntKind.i64.wrap (a8 - 1)).toNat 1).toNat 0), .int .i64 (ri a10 (ri a6 (IntKind.i64.wrap (a8 - 1)).toNat 1).toNat 1)])], 5, [], []⟩) ?_ ?_
        · conv => whnf
          refine XNeed.mk (XNeed.c h) ?_; replace h := XNeed.x h
          conv => whnf
          refine XNeed.mk (XNeed.c h) ?_; replace h := XNeed.x h
          conv => whnf
          refine ⟨?_, rfl⟩
          conv => whnf
          refine ⟨?_, ?_⟩
          · conv => whnf
            refine ⟨?_, ?_⟩
            · conv => whnf
              refine ⟨?_, ?_⟩
              · conv => whnf
                refine ⟨?_, ?_⟩
                · conv => whnf
                  refine ⟨Weak.a ?_⟩; (conv => whnf); exact ⟨rfl, rfl, rfl, rfl, rfl⟩
                · conv => whnf
                  exact trivial
              · conv => whnf
                exact trivial
            · conv => whnf
              exact trivial
          · conv => whnf
            refine ⟨?_, ?_⟩
            · conv => whnf
              refine ⟨?_, ?_⟩
              · conv => whnf
                refine ⟨?_, ?_⟩
                · conv => whnf
                  refine ⟨?_, ?_⟩
                  · conv => whnf
                    refine ⟨Weak.a ?_⟩; (conv => whnf); exact ⟨rfl, rfl, rfl, rfl, rfl⟩
                  · conv => whnf
                    exact trivial
                · conv => whnf
                  exact trivial
              · conv => whnf
                exact trivial
            · conv => whnf
              exact trivial
        · replace h := XNeed.x h
          replace h := XNeed.x h
          conv => whnf
          refine ASeq.joinW tab_ok mixed_ (fun v9 => ⟨[(1, .int .i64 (a8)), (3, .ptr 0 0), (6, .ptr 1 0), (7, .int .i64 (0)), (9, .ptr 2 0), (10, .ptr 3 0), (11, .ptr 4 0)], [(0, .box 26 [.int .i64 (a0), .int .i64 (a1), .int .i64 (a2), .int .i64 (a3), .int .i64 (a4), .sl (a5) 45 (a6), .int .i64 (a7)]), (1, .box 31 [.int .i64 (0), .int .i64 (0)]), (2, .box 45 [.int .i64 (ri a6 (IntKind.i64.wrap (a8 - 1)).toNat 0), .int .i64 (ri a6 (IntKind.i64.wrap (a8 - 1)).toNat 1), .int .i64 (ri a6 (IntKind.i64.wrap (a8 - 1)).toNat 2), .int .i64 (ri a6 (IntKind.i64.wrap (a8 - 1)).toNat 3), .int .i64 (ri a6 (IntKind.i64.wrap (a8 - 1)).toNat 4), .int .i64 (ri a6 (IntKind.i64.wrap (a8 - 1)).toNat 5), .int .i64 (ri a6 (IntKind.i64.wrap (a8 - 1)).toNat 6), .int .i64 (ri a6 (IntKind.i64.wrap (a8 - 1)).toNat 7), .int .i64 (ri a6 (IntKind.i64.wrap (a8 - 1)).toNat 8), .int .i64 (ri a6 (IntKind.i64.wrap (a8 - 1)).toNat 9), .int .i64 (ri a6 (IntKind.i64.wrap (a8 - 1)).toNat 10), .int .i64 (ri a6 (IntKind.i64.wrap (a8 - 1)).toNat 11), .sl (rn a6 (IntKind.i64.wrap (a8 - 1)).toNat 12) 74 (rr a6 (IntKind.i64.wrap (a8 - 1)).toNat 12), .sl (rn a6 (IntKind.i64.wrap (a8 - 1)).toNat 13) 21 (rr a6 (IntKind.i64.wrap (a8 - 1)).toNat 13), .int .i64 (ri a6 (IntKind.i64.wrap (a8 - 1)).toNat 14), .int .i64 (ri a6 (IntKind.i64.wrap (a8 - 1)).toNat 15), .int .i64 (ri a6 (IntKind.i64.wrap (a8 - 1)).toNat 16), .int .i64 (ri a6 (IntKind.i64.wrap (a8 - 1)).toNat 17), .int .i64 (ri a6 (IntKind.i64.wrap (a8 - 1)).toNat 18), .int .i64 (ri a6 (IntKind.i64.wrap (a8 - 1)).toNat 19), .int .i64 (ri a6 (IntKind.i64.wrap (a8 - 1)).toNat 20), .int .i64 (ri a6 (IntKind.i64.wrap (a8 - 1)).toNat 21)]), (3, .box 31 [.int .i64 (ri a10 (ri a6 (IntKind.i64.wrap (a8 - 1)).toNat 1).toNat 0), .int .i64 (ri a10 (ri a6 (IntKind.i64.wrap (a8 - 1)).toNat 1).toNat 1)]), (4, .box 31 [.int .i64 (v9.fst), .int .i64 (v9.snd)])], 5, [], []⟩) h (fun Q h => ?_) (fun v9 h => ?_)
          · conv => whnf
            refine XSplit.mk (fun e => ?_) (fun e => ?_)
            · replace h := XSplit.t h e
              conv => whnf
              refine XNeed.mk (XNeed.c h) ?_; replace h := XNeed.x h
              conv => whnf
              refine ⟨_, Weak.a ?_, h⟩; (conv => whnf); exact ⟨rfl, rfl, rfl, rfl, rfl⟩
            · replace h := XSplit.f h e
              conv => whnf
              refine ⟨_, Weak.a ?_, h⟩; (conv => whnf); exact ⟨rfl, rfl, rfl, rfl, rfl⟩
          · conv => whnf
            refine ASeq.go tab_ok mixed_ ?_
            conv => whnf
            refine ASeq.joinW tab_ok mixed_ (fun v10 => ⟨[(1, .int .i64 (a8)), (3, .ptr 0 0), (6, .ptr 1 0), (7, .int .i64 (0)), (9, .ptr 2 0), (10, .ptr 3 0), (11, .ptr 4 0), (71, .bool (v10))], [(0, .box 26 [.int .i64 (a0), .int .i64 (a1), .int .i64 (a2), .int .i64 (a3), .int .i64 (a4), .sl (a5) 45 (a6), .int .i64 (a7)]), (1, .box 31 [.int .i64 (0), .int .i64 (0)]), (2, .box 45 [.int .i64 (ri a6 (IntKind.i64.wrap (a8 - 1)).toNat 0), .int .i64 (ri a6 (IntKind.i64.wrap (a8 - 1)).toNat 1), .int .i64 (ri a6 (IntKind.i64.wrap (a8 - 1)).toNat 2), .int .i64 (ri a6 (IntKind.i64.wrap (a8 - 1)).toNat 3), .int .i64 (ri a6 (IntKind.i64.wrap (a8 - 1)).toNat 4), .int .i64 (ri a6 (IntKind.i64.wrap (a8 - 1)).toNat 5), .int .i64 (ri a6 (IntKind.i64.wrap (a8 - 1)).toNat 6), .int .i64 (ri a6 (IntKind.i64.wrap (a8 - 1)).toNat 7), .int .i64 (ri a6 (IntKind.i64.wrap (a8 - 1)).toNat 8), .int .i64 (ri a6 (IntKind.i64.wrap (a8 - 1)).toNat 9), .int .i64 (ri a6 (IntKind.i64.wrap (a8 - 1)).toNat 10), .int .i64 (ri a6 (IntKind.i64.wrap (a8 - 1)).toNat 11), .sl (rn a6 (IntKind.i64.wrap (a8 - 1)).toNat 12) 74 (rr a6 (IntKind.i64.wrap (a8 - 1)).toNat 12), .sl (rn a6 (IntKind.i64.wrap (a8 - 1)).toNat 13) 21 (rr a6 (IntKind.i64.wrap (a8 - 1)).toNat 13), .int .i64 (ri a6 (IntKind.i64.wrap (a8 - 1)).toNat 14), .int .i64 (ri a6 (IntKind.i64.wrap (a8 - 1)).toNat 15), .int .i64 (ri a6 (IntKind.i64.wrap (a8 - 1)).toNat 16), .int .i64 (ri a6 (IntKind.i64.wrap (a8 - 1)).toNat 17), .int .i64 (ri a6 (IntKind.i64.wrap (a8 - 1)).toNat 18), .int .i64 (ri a6 (IntKind.i64.wrap (a8 - 1)).toNat 19), .int .i64 (ri a6 (IntKind.i64.wrap (a8 - 1)).toNat 20), .int .i64 (ri a6 (IntKind.i64.wrap (a8 - 1)).toNat 21)]), (3, .box 31 [.int .i64 (ri a10 (ri a6 (IntKind.i64.wrap (a8 - 1)).toNat 1).toNat 0), .int .i64 (ri a10 (ri a6 (IntKind.i64.wrap (a8 - 1)).toNat 1).toNat 1)]), (4, .box 31 [.int .i64 (v9.fst), .int .i64 (v9.snd)])], 5, [], []⟩) h (fun Q h => ?_) (fun v10 h => ?_)
            · conv => whnf
              refine ACalls.inn (c_span_Holds (W.bindE h) (fun v11 h => ?_)) ⟨rfl, rfl⟩
              conv => whnf
              refine XSplit.mk (fun e => ?_) (fun e => ?_)
              · replace h := XSplit.t h e
                conv => whnf
                refine ⟨_, Weak.a ?_, h⟩; (conv => whnf); exact ⟨rfl, rfl, rfl, rfl, rfl⟩
              · replace h := XSplit.f h e
                conv => whnf
                refine ACalls.inn (c_span_Holds (W.bindE h) (fun v12 h => ?_)) ⟨rfl, rfl⟩
                conv => whnf
                refine ⟨_, Weak.a ?_, h⟩; (conv => whnf); exact ⟨rfl, rfl, rfl, rfl, rfl⟩
            · conv => whnf
              refine XSplit.mk (fun e => ?_) (fun e => ?_)
              · replace h := XSplit.t h e
                conv => whnf
                refine ⟨_, Weak.a ?_, ?_, h⟩; (conv => whnf); exact ⟨rfl, rfl, rfl, rfl, rfl⟩; exact rfl
              · replace h := XSplit.f h e
                conv => whnf
                refine ACalls.inn (c_flow_comes (W.bindE h) (fun v13 h => ?_)) ⟨rfl, rfl⟩
                conv => whnf
                refine XDraw.d [0, 1, 2, 4, 5, 6, 3, 7, 8, 9, 10] [[], [], [], [], [], [], [], [], [], [1], []] (by decide +kernel) ?_
                conv => whnf
                refine ACalls.inn (c_flow_home (W.bindE h) (fun v14 h => ?_)) ⟨rfl, rfl⟩
                conv => whnf
                refine ACalls.inn (c_flow_home (W.bindE h) (fun v15 h => ?_)) ⟨rfl, rfl⟩
                conv => whnf
                refine ⟨_, Weak.a ?_, ?_, h⟩; (conv => whnf); exact ⟨rfl, rfl, rfl, rfl, rfl⟩; exact rfl
theorem c_flow_Spread {a0 : Int} {a1 : Int} {a2 : Int} {a3 : Int} {a4 : Int} {a5 : Bool} {a6 : Rws} {a7 : Int} {Q : Int × Int × Int × Bool × Rws → Prop} {R : AV → List AB → Prop} (h : (g_flow_Spread a0 a1 a2 a3 a4 a5 a6 a7).run Q) (k : ∀ r, Q r → R (.tup [.own 0, .agg [.int .i64 (r.fst), .int .i64 (r.snd.fst), .int .i64 (r.snd.snd.fst)]]) ([.arr true 31 (r.snd.snd.snd.fst) (r.snd.snd.snd.snd)])) : ACalls Try.prog tab 9 [.agg [.int .i64 (a0), .int .i64 (a1), .int .i64 (a2), .int .i64 (a3), .int .i64 (a4), .sl (a5) 45 (a6), .int .i64 (a7)]] [] R := by
  refine ACalls.out (fun r => .tup [.own 0, .agg [.int .i64 (r.fst), .int .i64 (r.snd.fst), .int .i64 (r.snd.snd.fst)]]) (fun r => [.arr true 31 (r.snd.snd.snd.fst) (r.snd.snd.snd.snd)]) (Q := Q) (ACalls.introX (mv := mv) tab_ok mixed_ (fn := Try.f9) (by kernel_rfl) rfl (by kernel_rfl) (by kernel_rfl) (leB rfl) ?_) (fun v => by first | exact ⟨rfl, leB rfl⟩ | (cases v <;> exact ⟨rfl, leB rfl⟩)) k
  conv => whnf
  refine ASeq.go tab_ok mixed_ ?_
  conv => whnf
  refine ACalls.inn (c_model_Check (W.bindE h) (fun v4 h => ?_)) ⟨rfl, rfl⟩
  conv => whnf
  refine XSplit.mk (fun e => ?_) (fun e => ?_)
  · replace h := XSplit.t h e
    conv => whnf
    refine XDraw.d [0, 1, 2] [[], [], [1]] (by decide +kernel) ?_
    conv => whnf
    refine ⟨_, Weak.a ?_, ?_, h⟩; (conv => whnf); exact ⟨rfl, rfl, rfl, rfl, rfl⟩; exact rfl
  · replace h := XSplit.f h e
    conv => whnf
    refine ASeq.go tab_ok mixed_ ?_
    conv => whnf
    refine ALoop.ofW tab_ok mixed_ (fun v5 => ⟨[(1, .ptr 0 0), (2, .nils), (3, .ptr 1 0), (5, .own 2), (23, .int .i64 ((↑(List.length a6) : Int))), (24, .int .i64 (v5.fst))], [(0, .box 26 [.int .i64 (a0), .int .i64 (a1), .int .i64 (a2), .int .i64 (a3), .int .i64 (a4), .sl (a5) 45 (a6), .int .i64 (a7)]), (1, .box 48 [.int .i64 (0), .int .i64 (0), .int .i64 (0)]), (2, .arr true 31 (false) (v5.snd))], 3, [], []⟩) (fun v6 => (.exit 0, ⟨[(2, .nils), (3, .ptr 0 0), (5, .own 1)], [(0, .box 48 [.int .i64 (0), .int .i64 (0), .int .i64 (0)]), (1, .arr true 31 (false) (v6))], 2, [], []⟩)) (W.bindE h) (Weak.a ?_) (fun v5 J_ Q h => ?_) (fun v6 h => ?_)
    · conv => whnf
      exact ⟨rfl, rfl, rfl, rfl, rfl⟩
    · conv => whnf
      refine ASeq.go tab_ok mixed_ ?_
      conv => whnf
      refine XSplit.mk (fun e => ?_) (fun e => ?_)
      · replace h := XSplit.t h e
        conv => whnf
        refine ASeq.go tab_ok mixed_ ?_
        conv => whnf
        refine ACalls.inn (c_flow_Out (W.bindE h) (fun v7 h => ?_)) ⟨rfl, rfl⟩
        conv => whnf
        refine XNeed.mk (XNeed.c h) ?_; replace h := XNeed.x h
        conv => whnf
        refine ⟨_, Weak.a ?_, h⟩; (conv => whnf); exact ⟨rfl, rfl, rfl, rfl, rfl⟩
      · replace h := XSplit.f h e
        conv => whnf
        refine ⟨_, ?_, Weak.a ?_, h⟩; exact rfl; (conv => whnf); exact ⟨rfl, rfl, rfl, rfl, rfl⟩
    · conv => whnf
      refine ⟨_, Weak.a ?_, ?_, h⟩; (conv => whnf); exact ⟨rfl, rfl, rfl, rfl, rfl⟩; exact rfl
theorem c_law14_fixed {Q : Bool → Prop} {R : AV → List AB → Prop} (h : (g_law14_fixed).run Q) (k : ∀ r, Q r → R (.bool (r)) ([])) : ACalls Try.prog tab 6 [] [] R := by
  refine ACalls.out (fun r => .bool (r)) (fun r => []) (Q := Q) (ACalls.introX (mv := mv) tab_ok mixed_ (fn := Try.f6) (by kernel_rfl) rfl (by kernel_rfl) (by kernel_rfl) (leB rfl) ?_) (fun v => by first | exact ⟨rfl, leB rfl⟩ | (cases v <;> exact ⟨rfl, leB rfl⟩)) k
  conv => whnf
  refine ACalls.inn (c_law14_one (W.bindE h) (fun v6 h => ?_)) ⟨rfl, rfl⟩
  conv => whnf
  refine ACalls.inn (c_flow_Spread (W.bindE h) (fun v7 h => ?_)) ⟨rfl, rfl⟩
  conv => whnf
  refine ACalls.inn (c_law14_one (W.bindE h) (fun v8 h => ?_)) ⟨rfl, rfl⟩
  conv => whnf
  refine ACalls.inn (c_flow_Out (W.bindE h) (fun v9 h => ?_)) ⟨rfl, rfl⟩
  conv => whnf
  refine ACalls.inn (c_law14_one (W.bindE h) (fun v10 h => ?_)) ⟨rfl, rfl⟩
  conv => whnf
  refine ACalls.inn (c_flow_Out (W.bindE h) (fun v11 h => ?_)) ⟨rfl, rfl⟩
  conv => whnf
  refine XDraw.q [0, 1, 2, 3, 4, 5, 6, 7, 8, 9, 10, 11, 12, 13, 14, 15, 16, 17, 18, 19, 20, 21, 22, 23, 24, 25, 26, 27, 28, 29, 30, 31, 32, 33, 34, 35, 36, 37] (by decide +kernel) ?_
  conv => whnf
  refine XNeed.mk (XNeed.c h) ?_; replace h := XNeed.x h
  conv => whnf
  refine XNeed.mk (XNeed.c h) ?_; replace h := XNeed.x h
  conv => whnf
  refine XNeed.mk (XNeed.c h) ?_; replace h := XNeed.x h
  conv => whnf
  refine ⟨_, Weak.a ?_, ?_, h⟩; (conv => whnf); exact ⟨rfl, rfl, rfl, rfl, rfl⟩; exact rfl
theorem c_plain_Tensors_1_p {a0 : Int} {a1 : Int} {a2 : Int} {a3 : Int} {a4 : Int} {a5 : Int} {a6 : Bool} {a7 : Rws} {a8 : Int} {Q : Bool → Prop} {R : AV → List AB → Prop} (h : (g_plain_Tensors_1_p a0 a1 a2 a3 a4 a5 a6 a7 a8).run Q) (k : ∀ r, Q r → R (.bool (r)) ([.box 26 [.int .i64 (a1), .int .i64 (a2), .int .i64 (a3), .int .i64 (a4), .int .i64 (a5), .sl (a6) 45 (a7), .int .i64 (a8)]])) : ACalls Try.prog tab 18 [.int .i8 (a0), .ptr 0 0] [.box 26 [.int .i64 (a1), .int .i64 (a2), .int .i64 (a3), .int .i64 (a4), .int .i64 (a5), .sl (a6) 45 (a7), .int .i64 (a8)]] R := by
  refine ACalls.out (fun r => .bool (r)) (fun r => [.box 26 [.int .i64 (a1), .int .i64 (a2), .int .i64 (a3), .int .i64 (a4), .int .i64 (a5), .sl (a6) 45 (a7), .int .i64 (a8)]]) (Q := Q) (ACalls.introX (mv := mv) tab_ok mixed_ (fn := Try.f18) (by kernel_rfl) rfl (by kernel_rfl) (by kernel_rfl) (leB rfl) ?_) (fun v => by first | exact ⟨rfl, leB rfl⟩ | (cases v <;> exact ⟨rfl, leB rfl⟩)) k
  conv => whnf
  refine ⟨_, Weak.a ?_, ?_, h⟩; (conv => whnf); exact ⟨rfl, rfl, rfl, rfl, rfl⟩; exact rfl
theorem c_slices_IndexFunc___int8_int8___plain_Tensors_1 {a0 : Bool} {a1 : Rws} {a2 : Int} {a3 : Int} {a4 : Int} {a5 : Int} {a6 : Int} {a7 : Bool} {a8 : Rws} {a9 : Int} {Q : Int → Prop} {R : AV → List AB → Prop} (h : (g_slices_IndexFunc___int8_int8___plain_Tensors_1 a0 a1 a2 a3 a4 a5 a6 a7 a8 a9).run Q) (k : ∀ r, Q r → R (.int .i64 (r)) ([.box 26 [.int .i64 (a2), .int .i64 (a3), .int .i64 (a4), .int .i64 (a5), .int .i64 (a6), .sl (a7) 45 (a8), .int .i64 (a9)]])) : ACalls Try.prog tab 32 [.sl (a0) 56 (a1), .fn 18 [] [.ptr 0 0]] [.box 26 [.int .i64 (a2), .int .i64 (a3), .int .i64 (a4), .int .i64 (a5), .int .i64 (a6), .sl (a7) 45 (a8), .int .i64 (a9)]] R := by
  refine ACalls.out (fun r => .int .i64 (r)) (fun r => [.box 26 [.int .i64 (a2), .int .i64 (a3), .int .i64 (a4), .int .i64 (a5), .int .i64 (a6), .sl (a7) 45 (a8), .int .i64 (a9)]]) (Q := Q) (ACalls.introX (mv := mv) tab_ok mixed_ (fn := Try.f32) (by kernel_rfl) rfl (by kernel_rfl) (by kernel_rfl) (leB rfl) ?_) (fun v => by first | exact ⟨rfl, leB rfl⟩ | (cases v <;> exact ⟨rfl, leB rfl⟩)) k
  conv => whnf
  refine ASeq.go tab_ok mixed_ ?_
  conv => whnf
  refine ALoop.ofW tab_ok mixed_ (fun v4 => ⟨[(0, .sl (a0) 56 (a1)), (1, .fn 18 [] [.ptr 0 0]), (4, .int .i64 (0)), (7, .int .i64 ((↑(List.length a1) : Int))), (8, .int .i64 (v4))], [(0, .box 26 [.int .i64 (a2), .int .i64 (a3), .int .i64 (a4), .int .i64 (a5), .int .i64 (a6), .sl (a7) 45 (a8), .int .i64 (a9)])], 1, [], []⟩) (sx (fun v5 => (.ret, ⟨[(4, .int .i64 (v5))], [(0, .box 26 [.int .i64 (a2), .int .i64 (a3), .int .i64 (a4), .int .i64 (a5), .int .i64 (a6), .sl (a7) 45 (a8), .int .i64 (a9)])], 1, [], []⟩)) (fun v6 => (.exit 0, ⟨[(4, .int .i64 (0))], [(0, .box 26 [.int .i64 (a2), .int .i64 (a3), .int .i64 (a4), .int .i64 (a5), .int .i64 (a6), .sl (a7) 45 (a8), .int .i64 (a9)])], 1, [], []⟩))) (W.bindE h) (Weak.a ?_) (fun v4 J_ Q h => ?_) (fun v h => ?_)
  · conv => whnf
    exact ⟨rfl, rfl, rfl, rfl, rfl⟩
  · conv => whnf
    refine ASeq.go tab_ok mixed_ ?_
    conv => whnf
    refine XSplit.mk (fun e => ?_) (fun e => ?_)
    · replace h := XSplit.t h e
      conv => whnf
      refine ASeq.go tab_ok mixed_ ?_
      conv => whnf
      refine XNeed.mk (XNeed.c h) ?_; replace h := XNeed.x h
      conv => whnf
      refine ACalls.inn (c_plain_Tensors_1_p (W.bindE h) (fun v7 h => ?_)) ⟨rfl, rfl⟩
      conv => whnf
      refine XSplit.mk (fun e => ?_) (fun e => ?_)
      · replace h := XSplit.t h e
        conv => whnf
        refine ⟨_, ?_, Weak.a ?_, h⟩; exact rfl; (conv => whnf); exact ⟨rfl, rfl, rfl, rfl, rfl⟩
      · replace h := XSplit.f h e
        conv => whnf
        refine ⟨_, Weak.a ?_, h⟩; (conv => whnf); exact ⟨rfl, rfl, rfl, rfl, rfl⟩
    · replace h := XSplit.f h e
      conv => whnf
      refine ⟨_, ?_, Weak.a ?_, h⟩; exact rfl; (conv => whnf); exact ⟨rfl, rfl, rfl, rfl, rfl⟩
  · rcases v with v5 | v6
    · conv => whnf
      refine ⟨_, Weak.a ?_, ?_, h⟩; (conv => whnf); exact ⟨rfl, rfl, rfl, rfl, rfl⟩; exact rfl
    · conv => whnf
      refine ⟨_, Weak.a ?_, ?_, h⟩; (conv => whnf); exact ⟨rfl, rfl, rfl, rfl, rfl⟩; exact rfl
theorem c_slices_ContainsFunc___int8_int8___plain_Tensors_1 {a0 : Bool} {a1 : Rws} {a2 : Int} {a3 : Int} {a4 : Int} {a5 : Int} {a6 : Int} {a7 : Bool} {a8 : Rws} {a9 : Int} {Q : Bool → Prop} {R : AV → List AB → Prop} (h : (g_slices_ContainsFunc___int8_int8___plain_Tensors_1 a0 a1 a2 a3 a4 a5 a6 a7 a8 a9).run Q) (k : ∀ r, Q r → R (.bool (r)) ([.box 26 [.int .i64 (a2), .int .i64 (a3), .int .i64 (a4), .int .i64 (a5), .int .i64 (a6), .sl (a7) 45 (a8), .int .i64 (a9)]])) : ACalls Try.prog tab 19 [.sl (a0) 56 (a1), .fn 18 [] [.ptr 0 0]] [.box 26 [.int .i64 (a2), .int .i64 (a3), .int .i64 (a4), .int .i64 (a5), .int .i64 (a6), .sl (a7) 45 (a8), .int .i64 (a9)]] R := by
  refine ACalls.out (fun r => .bool (r)) (fun r => [.box 26 [.int .i64 (a2), .int .i64 (a3), .int .i64 (a4), .int .i64 (a5), .int .i64 (a6), .sl (a7) 45 (a8), .int .i64 (a9)]]) (Q := Q) (ACalls.introX (mv := mv) tab_ok mixed_ (fn := Try.f19) (by kernel_rfl) rfl (by kernel_rfl) (by kernel_rfl) (leB rfl) ?_) (fun v => by first | exact ⟨rfl, leB rfl⟩ | (cases v <;> exact ⟨rfl, leB rfl⟩)) k
  conv => whnf
  refine ACalls.inn (c_slices_IndexFunc___int8_int8___plain_Tensors_1 (W.bindE h) (fun v1 h => ?_)) ⟨rfl, rfl⟩
  conv => whnf
  refine ⟨_, Weak.a ?_, ?_, h⟩; (conv => whnf); exact ⟨rfl, rfl, rfl, rfl, rfl⟩; exact rfl
theorem c_slices_Clone___int8_int8_ {a0 : Bool} {a1 : Rws} {Q : Bool × Rws → Prop} {R : AV → List AB → Prop} (h : (g_slices_Clone___int8_int8_ a0 a1).run Q) (k : ∀ r, Q r → R (.own 0) ([.arr true 56 (r.fst) (r.snd)])) : ACalls Try.prog tab 20 [.sl (a0) 56 (a1)] [] R := by
  refine ACalls.out (fun r => .own 0) (fun r => [.arr true 56 (r.fst) (r.snd)]) (Q := Q) (ACalls.introX (mv := mv) tab_ok mixed_ (fn := Try.f20) (by kernel_rfl) rfl (by kernel_rfl) (by kernel_rfl) (leB rfl) ?_) (fun v => by first | exact ⟨rfl, leB rfl⟩ | (cases v <;> exact ⟨rfl, leB rfl⟩)) k
  conv => whnf
  refine ASeq.go tab_ok mixed_ ?_
  conv => whnf
  refine XSplit.mk (fun e => ?_) (fun e => ?_)
  · replace h := XSplit.t h e
    conv => whnf
    refine ⟨_, Weak.a ?_, ?_, h⟩; (conv => whnf); exact ⟨rfl, rfl, rfl, rfl, rfl⟩; exact rfl
  · replace h := XSplit.f h e
    conv => whnf
    refine XNeed.mk (XNeed.c h) ?_; replace h := XNeed.x h
    conv => whnf
    refine ⟨_, Weak.a ?_, ?_, h⟩; (conv => whnf); exact ⟨rfl, rfl, rfl, rfl, rfl⟩; exact rfl
end Go.Proofs.Ytgeedlfnjneeiaa.V14
