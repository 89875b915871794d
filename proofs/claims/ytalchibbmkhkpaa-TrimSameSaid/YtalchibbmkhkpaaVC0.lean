/- The functions are their pure forms. -/
import Derived.Test.YtalchibbmkhkpaaVS
import Derived.Test.YtalchibbmkhkpaaVX2
import Derived.Test.YtalchibbmkhkpaaVX3
set_option linter.unusedVariables false
set_option linter.unusedSimpArgs false
set_option maxRecDepth 100000
set_option maxHeartbeats 0
namespace Go.Proofs.Ytalchibbmkhkpaa.V24
open Go.Proofs Go.Proofs.Ytalchibbmkhkpaa.VX
theorem c_law24_three {Q : Int × Int × Int × Int × Int × Int × Bool × Rws → Prop} {R : AV → List AB → Prop} (h : (g_law24_three).run Q) (k : ∀ r, Q r → R (.agg [.int .i64 (r.fst), .int .i64 (r.snd.fst), .int .i64 (r.snd.snd.fst), .int .i64 (r.snd.snd.snd.fst), .int .i64 (r.snd.snd.snd.snd.fst), .own 0, .int .i64 (r.snd.snd.snd.snd.snd.fst)]) ([.arr true 47 (r.snd.snd.snd.snd.snd.snd.fst) (r.snd.snd.snd.snd.snd.snd.snd)])) : ACalls Try.prog tab 26 [] [] R := by
  refine ACalls.out (fun r => .agg [.int .i64 (r.fst), .int .i64 (r.snd.fst), .int .i64 (r.snd.snd.fst), .int .i64 (r.snd.snd.snd.fst), .int .i64 (r.snd.snd.snd.snd.fst), .own 0, .int .i64 (r.snd.snd.snd.snd.snd.fst)]) (fun r => [.arr true 47 (r.snd.snd.snd.snd.snd.snd.fst) (r.snd.snd.snd.snd.snd.snd.snd)]) (Q := Q) (ACalls.introX (mv := mv) tab_ok mixed_ (fn := Try.f26) (by kernel_rfl) rfl (by kernel_rfl) (by kernel_rfl) (leB rfl) ?_) (fun v => by first | exact ⟨rfl, leB rfl⟩ | (cases v <;> exact ⟨rfl, leB rfl⟩)) k
  conv => whnf
  refine ⟨_, Weak.a ?_, ?_, h⟩; (conv => whnf); exact ⟨rfl, rfl, rfl, rfl, rfl⟩; exact rfl
theorem c_shape_Elems {a0 : Int} {a1 : Int} {a2 : Int} {Q : Int × Int → Prop} {R : AV → List AB → Prop} (h : (g_shape_Elems a0 a1 a2).run Q) (k : ∀ r, Q r → R (.tup [.int .i64 (r.fst), .int .i64 (r.snd)]) ([])) : ACalls Try.prog tab 35 [.agg [.int .i64 (a0), .int .i64 (a1), .int .i64 (a2)]] [] R := by
  refine ACalls.out (fun r => .tup [.int .i64 (r.fst), .int .i64 (r.snd)]) (fun r => []) (Q := Q) (ACalls.introX (mv := mv) tab_ok mixed_ (fn := Try.f35) (by kernel_rfl) rfl (by kernel_rfl) (by kernel_rfl) (leB rfl) ?_) (fun v => by first | exact ⟨rfl, leB rfl⟩ | (cases v <;> exact ⟨rfl, leB rfl⟩)) k
  conv => whnf
  refine ASeq.go tab_ok mixed_ ?_
  conv => whnf
  refine ALoop.unroll tab_ok mixed_ (kn := fun st => ALoop Try.prog tab _ _ _ _ st _) (fun _ h => h) ?_
  conv => whnf
  refine ASeq.go tab_ok mixed_ ?_
  conv => whnf
  refine XSplit.tt rfl ?_
  conv => whnf
  refine ASeq.go tab_ok mixed_ ?_
  conv => whnf
  refine XNeed.mk (of_decide_eq_true rfl) ?_
  conv => whnf
  refine ASeq.go tab_ok mixed_ ?_
  conv => whnf
  refine XSplit.mk (fun e => ?_) (fun e => ?_)
  · replace h := XSplit.t h e
    conv => whnf
    refine ⟨_, Weak.a ?_, ?_, h⟩; (conv => whnf); exact ⟨rfl, rfl, rfl, rfl, rfl⟩; exact rfl
  · replace h := XSplit.f h e
    conv => whnf
    refine ALoop.unroll tab_ok mixed_ (kn := fun st => ALoop Try.prog tab _ _ _ _ st _) (fun _ h => h) ?_
    conv => whnf
    refine ASeq.go tab_ok mixed_ ?_
    conv => whnf
    refine XSplit.tt rfl ?_
    conv => whnf
    refine ASeq.go tab_ok mixed_ ?_
    conv => whnf
    refine XNeed.mk (of_decide_eq_true rfl) ?_
    conv => whnf
    refine ASeq.go tab_ok mixed_ ?_
    conv => whnf
    refine XSplit.mk (fun e => ?_) (fun e => ?_)
    · replace h := XSplit.t h e
      conv => whnf
      refine ⟨_, Weak.a ?_, ?_, h⟩; (conv => whnf); exact ⟨rfl, rfl, rfl, rfl, rfl⟩; exact rfl
    · replace h := XSplit.f h e
      conv => whnf
      refine ALoop.unroll tab_ok mixed_ (kn := fun st => ALoop Try.prog tab _ _ _ _ st _) (fun _ h => h) ?_
      conv => whnf
      refine ASeq.go tab_ok mixed_ ?_
      conv => whnf
      refine XSplit.tt rfl ?_
      conv => whnf
      refine ASeq.go tab_ok mixed_ ?_
      conv => whnf
      refine XNeed.mk (of_decide_eq_true rfl) ?_
      conv => whnf
      refine ASeq.go tab_ok mixed_ ?_
      conv => whnf
      refine XSplit.mk (fun e => ?_) (fun e => ?_)
      · replace h := XSplit.t h e
        conv => whnf
        refine ⟨_, Weak.a ?_, ?_, h⟩; (conv => whnf); exact ⟨rfl, rfl, rfl, rfl, rfl⟩; exact rfl
      · replace h := XSplit.f h e
        conv => whnf
        refine ALoop.unroll tab_ok mixed_ (kn := fun st => ALoop Try.prog tab _ _ _ _ st _) (fun _ h => h) ?_
        conv => whnf
        refine ASeq.go tab_ok mixed_ ?_
        conv => whnf
        refine XSplit.ff rfl ?_
        conv => whnf
        refine ASeq.go tab_ok mixed_ ?_
        conv => whnf
        refine XSplit.mk (fun e => ?_) (fun e => ?_)
        · replace h := XSplit.t h e
          conv => whnf
          refine ⟨_, Weak.a ?_, ?_, h⟩; (conv => whnf); exact ⟨rfl, rfl, rfl, rfl, rfl⟩; exact rfl
        · replace h := XSplit.f h e
          conv => whnf
          refine ⟨_, Weak.a ?_, ?_, h⟩; (conv => whnf); exact ⟨rfl, rfl, rfl, rfl, rfl⟩; exact rfl
theorem c_model_byte8 {a0 : Bool} {a1 : Rws} {Q : Bool → Prop} {R : AV → List AB → Prop} (h : (g_model_byte8 a0 a1).run Q) (k : ∀ r, Q r → R (.bool (r)) ([])) : ACalls Try.prog tab 36 [.sl (a0) 3 (a1)] [] R := by
  refine ACalls.out (fun r => .bool (r)) (fun r => []) (Q := Q) (ACalls.introX (mv := mv) tab_ok mixed_ (fn := Try.f36) (by kernel_rfl) rfl (by kernel_rfl) (by kernel_rfl) (leB rfl) ?_) (fun v => by first | exact ⟨rfl, leB rfl⟩ | (cases v <;> exact ⟨rfl, leB rfl⟩)) k
  conv => whnf
  refine ASeq.go tab_ok mixed_ ?_
  conv => whnf
  refine ALoop.ofW tab_ok mixed_ (fun v3 => ⟨[(2, .kb false), (5, .sl (a0) 3 (a1)), (6, .int .i64 ((↑(List.length a1) : Int))), (7, .int .i64 (v3))], [], 0, [], []⟩) (sx (fun v4 => (.ret, ⟨[(2, .kb false)], [], 0, [], []⟩)) (fun v5 => (.exit 0, ⟨[(2, .kb false)], [], 0, [], []⟩))) (W.bindE h) (Weak.a ?_) (fun v3 J_ Q h => ?_) (fun v h => ?_)
  · conv => whnf
    exact ⟨rfl, rfl, rfl, rfl, rfl⟩
  · conv => whnf
    refine ASeq.go tab_ok mixed_ ?_
    conv => whnf
    refine XSplit.mk (fun e => ?_) (fun e => ?_)
    · replace h := XSplit.t h e
      conv => whnf
      refine ASeq.go tab_ok mixed_ ?_
      conv => whnf
      refine XNeed.mk (XNeed.c h) ?_; replace h := XNeed.x h
      conv => whnf
      refine XSplit.mk (fun e => ?_) (fun e => ?_)
      · replace h := XSplit.t h e
        conv => whnf
        refine ⟨_, ?_, Weak.a ?_, h⟩; exact rfl; (conv => whnf); exact ⟨rfl, rfl, rfl, rfl, rfl⟩
      · replace h := XSplit.f h e
        conv => whnf
        refine ⟨_, Weak.a ?_, h⟩; (conv => whnf); exact ⟨rfl, rfl, rfl, rfl, rfl⟩
    · replace h := XSplit.f h e
      conv => whnf
      refine ⟨_, ?_, Weak.a ?_, h⟩; exact rfl; (conv => whnf); exact ⟨rfl, rfl, rfl, rfl, rfl⟩
  · rcases v with v4 | v5
    · conv => whnf
      refine ⟨_, Weak.a ?_, ?_, h⟩; (conv => whnf); exact ⟨rfl, rfl, rfl, rfl, rfl⟩; exact rfl
    · conv => whnf
      refine ⟨_, Weak.a ?_, ?_, h⟩; (conv => whnf); exact ⟨rfl, rfl, rfl, rfl, rfl⟩; exact rfl
theorem c_model_of {a0 : Int} {Q : Bool × Bool × Bool × Bool × Bool × Bool × Bool × Bool × Bool → Prop} {R : AV → List AB → Prop} (h : (g_model_of a0).run Q) (k : ∀ r, Q r → R (.tup [.agg [.bool (r.fst), .bool (r.snd.fst), .bool (r.snd.snd.fst), .bool (r.snd.snd.snd.fst), .bool (r.snd.snd.snd.snd.fst), .bool (r.snd.snd.snd.snd.snd.fst), .bool (r.snd.snd.snd.snd.snd.snd.fst), .bool (r.snd.snd.snd.snd.snd.snd.snd.fst)], .bool (r.snd.snd.snd.snd.snd.snd.snd.snd)]) ([])) : ACalls Try.prog tab 58 [.int .i64 (a0)] [] R := by
  refine ACalls.out (fun r => .tup [.agg [.bool (r.fst), .bool (r.snd.fst), .bool (r.snd.snd.fst), .bool (r.snd.snd.snd.fst), .bool (r.snd.snd.snd.snd.fst), .bool (r.snd.snd.snd.snd.snd.fst), .bool (r.snd.snd.snd.snd.snd.snd.fst), .bool (r.snd.snd.snd.snd.snd.snd.snd.fst)], .bool (r.snd.snd.snd.snd.snd.snd.snd.snd)]) (fun r => []) (Q := Q) (ACalls.introX (mv := mv) tab_ok mixed_ (fn := Try.f58) (by kernel_rfl) rfl (by kernel_rfl) (by kernel_rfl) (leB rfl) ?_) (fun v => by first | exact ⟨rfl, leB rfl⟩ | (cases v <;> exact ⟨rfl, leB rfl⟩)) k
  conv => whnf
  refine ASeq.go tab_ok mixed_ ?_
  conv => whnf
  refine XSplit.mk (fun e => ?_) (fun e => ?_)
  · replace h := XSplit.t h e
    conv => whnf
    refine ⟨_, Weak.a ?_, ?_, h⟩; (conv => whnf); exact ⟨rfl, rfl, rfl, rfl, rfl⟩; exact rfl
  · replace h := XSplit.f h e
    conv => whnf
    refine XSplit.mk (fun e => ?_) (fun e => ?_)
    · replace h := XSplit.t h e
      conv => whnf
      refine ⟨_, Weak.a ?_, ?_, h⟩; (conv => whnf); exact ⟨rfl, rfl, rfl, rfl, rfl⟩; exact rfl
    · replace h := XSplit.f h e
      conv => whnf
      refine XSplit.mk (fun e => ?_) (fun e => ?_)
      · replace h := XSplit.t h e
        conv => whnf
        refine ⟨_, Weak.a ?_, ?_, h⟩; (conv => whnf); exact ⟨rfl, rfl, rfl, rfl, rfl⟩; exact rfl
      · replace h := XSplit.f h e
        conv => whnf
        refine ASeq.joinW tab_ok mixed_ (fun v1 => ⟨[(2, .ptr 0 0), (3, .kb false), (4, .int .i64 (a0)), (14, .bool (v1))], [(0, .box 121 [.kb false, .kb false, .kb false, .kb false, .kb false, .kb false, .kb false, .kb false])], 1, [], []⟩) h (fun Q h => ?_) (fun v1 h => ?_)
        · conv => whnf
          refine XSplit.mk (fun e => ?_) (fun e => ?_)
          · replace h := XSplit.t h e
            conv => whnf
            refine ⟨_, Weak.a ?_, h⟩; (conv => whnf); exact ⟨rfl, rfl, rfl, rfl, rfl⟩
          · replace h := XSplit.f h e
            conv => whnf
            refine ⟨_, Weak.a ?_, h⟩; (conv => whnf); exact ⟨rfl, rfl, rfl, rfl, rfl⟩
        · conv => whnf
          refine XSplit.mk (fun e => ?_) (fun e => ?_)
          · replace h := XSplit.t h e
            conv => whnf
            refine ⟨_, Weak.a ?_, ?_, h⟩; (conv => whnf); exact ⟨rfl, rfl, rfl, rfl, rfl⟩; exact rfl
          · replace h := XSplit.f h e
            conv => whnf
            refine XSplit.mk (fun e => ?_) (fun e => ?_)
            · replace h := XSplit.t h e
              conv => whnf
              refine ⟨_, Weak.a ?_, ?_, h⟩; (conv => whnf); exact ⟨rfl, rfl, rfl, rfl, rfl⟩; exact rfl
            · replace h := XSplit.f h e
              conv => whnf
              refine XSplit.mk (fun e => ?_) (fun e => ?_)
              · replace h := XSplit.t h e
                conv => whnf
                refine ⟨_, Weak.a ?_, ?_, h⟩; (conv => whnf); exact ⟨rfl, rfl, rfl, rfl, rfl⟩; exact rfl
              · replace h := XSplit.f h e
                conv => whnf
                refine XSplit.mk (fun e => ?_) (fun e => ?_)
                · replace h := XSplit.t h e
                  conv => whnf
                  refine ⟨_, Weak.a ?_, ?_, h⟩; (conv => whnf); exact ⟨rfl, rfl, rfl, rfl, rfl⟩; exact rfl
                · replace h := XSplit.f h e
                  conv => whnf
                  refine ⟨_, Weak.a ?_, ?_, h⟩; (conv => whnf); exact ⟨rfl, rfl, rfl, rfl, rfl⟩; exact rfl
theorem c_model_bare {a0 : Int} {a1 : Int} {a2 : Int} {a3 : Int} {a4 : Int} {a5 : Int} {a6 : Int} {a7 : Int} {a8 : Int} {a9 : Int} {a10 : Int} {a11 : Int} {a12 : Bool} {a13 : Rws} {a14 : Bool} {a15 : Rws} {a16 : Int} {a17 : Int} {a18 : Int} {a19 : Int} {a20 : Int} {a21 : Int} {a22 : Int} {a23 : Int} {a24 : Bool} {a25 : Bool} {a26 : Bool} {a27 : Bool} {a28 : Bool} {a29 : Bool} {a30 : Bool} {a31 : Bool} {Q : Int × Int × Int × Int × Int × Int × Int × Int × Int × Int × Int × Int × Bool × Rws × Bool × Rws × Int × Int × Int × Int × Int × Int × Int × Int → Prop} {R : AV → List AB → Prop} (h : (g_model_bare a0 a1 a2 a3 a4 a5 a6 a7 a8 a9 a10 a11 a12 a13 a14 a15 a16 a17 a18 a19 a20 a21 a22 a23 a24 a25 a26 a27 a28 a29 a30 a31).run Q) (k : ∀ r, Q r → R (.agg [.int .i64 (r.fst), .int .i64 (r.snd.fst), .int .i64 (r.snd.snd.fst), .int .i64 (r.snd.snd.snd.fst), .int .i64 (r.snd.snd.snd.snd.fst), .int .i64 (r.snd.snd.snd.snd.snd.fst), .int .i64 (r.snd.snd.snd.snd.snd.snd.fst), .int .i64 (r.snd.snd.snd.snd.snd.snd.snd.fst), .int .i64 (r.snd.snd.snd.snd.snd.snd.snd.snd.fst), .int .i64 (r.snd.snd.snd.snd.snd.snd.snd.snd.snd.fst), .int .i64 (r.snd.snd.snd.snd.snd.snd.snd.snd.snd.snd.fst), .int .i64 (r.snd.snd.snd.snd.snd.snd.snd.snd.snd.snd.snd.fst), .sl (r.snd.snd.snd.snd.snd.snd.snd.snd.snd.snd.snd.snd.fst) 48 (r.snd.snd.snd.snd.snd.snd.snd.snd.snd.snd.snd.snd.snd.fst), .sl (r.snd.snd.snd.snd.snd.snd.snd.snd.snd.snd.snd.snd.snd.snd.fst) 21 (r.snd.snd.snd.snd.snd.snd.snd.snd.snd.snd.snd.snd.snd.snd.snd.fst), .int .i64 (r.snd.snd.snd.snd.snd.snd.snd.snd.snd.snd.snd.snd.snd.snd.snd.snd.fst), .int .i64 (r.snd.snd.snd.snd.snd.snd.snd.snd.snd.snd.snd.snd.snd.snd.snd.snd.snd.fst), .int .i64 (r.snd.snd.snd.snd.snd.snd.snd.snd.snd.snd.snd.snd.snd.snd.snd.snd.snd.snd.fst), .int .i64 (r.snd.snd.snd.snd.snd.snd.snd.snd.snd.snd.snd.snd.snd.snd.snd.snd.snd.snd.snd.fst), .int .i64 (r.snd.snd.snd.snd.snd.snd.snd.snd.snd.snd.snd.snd.snd.snd.snd.snd.snd.snd.snd.snd.fst), .int .i64 (r.snd.snd.snd.snd.snd.snd.snd.snd.snd.snd.snd.snd.snd.snd.snd.snd.snd.snd.snd.snd.snd.fst), .int .i64 (r.snd.snd.snd.snd.snd.snd.snd.snd.snd.snd.snd.snd.snd.snd.snd.snd.snd.snd.snd.snd.snd.snd.fst), .int .i64 (r.snd.snd.snd.snd.snd.snd.snd.snd.snd.snd.snd.snd.snd.snd.snd.snd.snd.snd.snd.snd.snd.snd.snd)]) ([])) : ACalls Try.prog tab 60 [.agg [.int .i64 (a0), .int .i64 (a1), .int .i64 (a2), .int .i64 (a3), .int .i64 (a4), .int .i64 (a5), .int .i64 (a6), .int .i64 (a7), .int .i64 (a8), .int .i64 (a9), .int .i64 (a10), .int .i64 (a11), .sl (a12) 48 (a13), .sl (a14) 21 (a15), .int .i64 (a16), .int .i64 (a17), .int .i64 (a18), .int .i64 (a19), .int .i64 (a20), .int .i64 (a21), .int .i64 (a22), .int .i64 (a23)], .agg [.bool (a24), .bool (a25), .bool (a26), .bool (a27), .bool (a28), .bool (a29), .bool (a30), .bool (a31)]] [] R := by
  refine ACalls.out (fun r => .agg [.int .i64 (r.fst), .int .i64 (r.snd.fst), .int .i64 (r.snd.snd.fst), .int .i64 (r.snd.snd.snd.fst), .int .i64 (r.snd.snd.snd.snd.fst), .int .i64 (r.snd.snd.snd.snd.snd.fst), .int .i64 (r.snd.snd.snd.snd.snd.snd.fst), .int .i64 (r.snd.snd.snd.snd.snd.snd.snd.fst), .int .i64 (r.snd.snd.snd.snd.snd.snd.snd.snd.fst), .int .i64 (r.snd.snd.snd.snd.snd.snd.snd.snd.snd.fst), .int .i64 (r.snd.snd.snd.snd.snd.snd.snd.snd.snd.snd.fst), .int .i64 (r.snd.snd.snd.snd.snd.snd.snd.snd.snd.snd.snd.fst), .sl (r.snd.snd.snd.snd.snd.snd.snd.snd.snd.snd.snd.snd.fst) 48 (r.snd.snd.snd.snd.snd.snd.snd.snd.snd.snd.snd.snd.snd.fst), .sl (r.snd.snd.snd.snd.snd.snd.snd.snd.snd.snd.snd.snd.snd.snd.fst) 21 (r.snd.snd.snd.snd.snd.snd.snd.snd.snd.snd.snd.snd.snd.snd.snd.fst), .int .i64 (r.snd.snd.snd.snd.snd.snd.snd.snd.snd.snd.snd.snd.snd.snd.snd.snd.fst), .int .i64 (r.snd.snd.snd.snd.snd.snd.snd.snd.snd.snd.snd.snd.snd.snd.snd.snd.snd.fst), .int .i64 (r.snd.snd.snd.snd.snd.snd.snd.snd.snd.snd.snd.snd.snd.snd.snd.snd.snd.snd.fst), .int .i64 (r.snd.snd.snd.snd.snd.snd.snd.snd.snd.snd.snd.snd.snd.snd.snd.snd.snd.snd.snd.fst), .int .i64 (r.snd.snd.snd.snd.snd.snd.snd.snd.snd.snd.snd.snd.snd.snd.snd.snd.snd.snd.snd.snd.fst), .int .i64 (r.snd.snd.snd.snd.snd.snd.snd.snd.snd.snd.snd.snd.snd.snd.snd.snd.snd.snd.snd.snd.snd.fst), .int .i64 (r.snd.snd.snd.snd.snd.snd.snd.snd.snd.snd.snd.snd.snd.snd.snd.snd.snd.snd.snd.snd.snd.snd.fst), .int .i64 (r.snd.snd.snd.snd.snd.snd.snd.snd.snd.snd.snd.snd.snd.snd.snd.snd.snd.snd.snd.snd.snd.snd.snd)]) (fun r => []) (Q := Q) (ACalls.introX (mv := mv) tab_ok mixed_ (fn := Try.f60) (by kernel_rfl) rfl (by kernel_rfl) (by kernel_rfl) (leB rfl) ?_) (fun v => by first | exact ⟨rfl, leB rfl⟩ | (cases v <;> exact ⟨rfl, leB rfl⟩)) k
  conv => whnf
  refine ASeq.joinW tab_ok mixed_ (fun v8 => ⟨[(2, .ptr 0 0), (3, .ptr 1 0), (4, .ptr 2 0)], [(0, .box 47 [.int .i64 (0), .int .i64 (0), .int .i64 (v8), .int .i64 (a3), .int .i64 (a4), .int .i64 (a5), .int .i64 (a6), .int .i64 (a7), .int .i64 (a8), .int .i64 (a9), .int .i64 (a10), .int .i64 (a11), .sl (a12) 48 (a13), .sl (a14) 21 (a15), .int .i64 (a16), .int .i64 (a17), .int .i64 (a18), .int .i64 (a19), .int .i64 (a20), .int .i64 (a21), .int .i64 (0), .int .i64 (0)]), (1, .box 121 [.bool (a24), .bool (a25), .bool (a26), .bool (a27), .bool (a28), .bool (a29), .bool (a30), .bool (a31)]), (2, .box 47 [.int .i64 (0), .int .i64 (0), .int .i64 (0), .int .i64 (0), .int .i64 (0), .int .i64 (0), .int .i64 (0), .int .i64 (0), .int .i64 (0), .int .i64 (0), .int .i64 (0), .int .i64 (0), .nils, .nils, .int .i64 (0), .int .i64 (0), .int .i64 (0), .int .i64 (0), .int .i64 (0), .int .i64 (0), .int .i64 (0), .int .i64 (0)])], 3, [], []⟩) h (fun Q h => ?_) (fun v8 h => ?_)
  · conv => whnf
    refine XSplit.mk (fun e => ?_) (fun e => ?_)
    · replace h := XSplit.t h e
      conv => whnf
      refine ⟨_, Weak.a ?_, h⟩; (conv => whnf); exact ⟨rfl, rfl, rfl, rfl, rfl⟩
    · replace h := XSplit.f h e
      conv => whnf
      refine ⟨_, Weak.a ?_, h⟩; (conv => whnf); exact ⟨rfl, rfl, rfl, rfl, rfl⟩
  · conv => whnf
    refine ASeq.joinW tab_ok mixed_ (fun v9 => ⟨[(2, .ptr 0 0), (3, .ptr 1 0), (4, .ptr 2 0)], [(0, .box 47 [.int .i64 (0), .int .i64 (0), .int .i64 (v8), .int .i64 (v9), .int .i64 (a4), .int .i64 (a5), .int .i64 (a6), .int .i64 (a7), .int .i64 (a8), .int .i64 (a9), .int .i64 (a10), .int .i64 (a11), .sl (a12) 48 (a13), .sl (a14) 21 (a15), .int .i64 (a16), .int .i64 (a17), .int .i64 (a18), .int .i64 (a19), .int .i64 (a20), .int .i64 (a21), .int .i64 (0), .int .i64 (0)]), (1, .box 121 [.bool (a24), .bool (a25), .bool (a26), .bool (a27), .bool (a28), .bool (a29), .bool (a30), .bool (a31)]), (2, .box 47 [.int .i64 (0), .int .i64 (0), .int .i64 (0), .int .i64 (0), .int .i64 (0), .int .i64 (0), .int .i64 (0), .int .i64 (0), .int .i64 (0), .int .i64 (0), .int .i64 (0), .int .i64 (0), .nils, .nils, .int .i64 (0), .int .i64 (0), .int .i64 (0), .int .i64 (0), .int .i64 (0), .int .i64 (0), .int .i64 (0), .int .i64 (0)])], 3, [], []⟩) h (fun Q h => ?_) (fun v9 h => ?_)
    · conv => whnf
      refine XSplit.mk (fun e => ?_) (fun e => ?_)
      · replace h := XSplit.t h e
        conv => whnf
        refine ⟨_, Weak.a ?_, h⟩; (conv => whnf); exact ⟨rfl, rfl, rfl, rfl, rfl⟩
      · replace h := XSplit.f h e
        conv => whnf
        refine ⟨_, Weak.a ?_, h⟩; (conv => whnf); exact ⟨rfl, rfl, rfl, rfl, rfl⟩
    · conv => whnf
      refine ASeq.joinW tab_ok mixed_ (fun v10 => ⟨[(2, .ptr 0 0), (3, .ptr 1 0), (4, .ptr 2 0)], [(0, .box 47 [.int .i64 (0), .int .i64 (0), .int .i64 (v8), .int .i64 (v9), .int .i64 (v10.fst), .int .i64 (v10.snd.fst), .int .i64 (v10.snd.snd.fst), .int .i64 (v10.snd.snd.snd), .int .i64 (a8), .int .i64 (a9), .int .i64 (a10), .int .i64 (a11), .sl (a12) 48 (a13), .sl (a14) 21 (a15), .int .i64 (a16), .int .i64 (a17), .int .i64 (a18), .int .i64 (a19), .int .i64 (a20), .int .i64 (a21), .int .i64 (0), .int .i64 (0)]), (1, .box 121 [.bool (a24), .bool (a25), .bool (a26), .bool (a27), .bool (a28), .bool (a29), .bool (a30), .bool (a31)]), (2, .box 47 [.int .i64 (0), .int .i64 (0), .int .i64 (0), .int .i64 (0), .int .i64 (0), .int .i64 (0), .int .i64 (0), .int .i64 (0), .int .i64 (0), .int .i64 (0), .int .i64 (0), .int .i64 (0), .nils, .nils, .int .i64 (0), .int .i64 (0), .int .i64 (0), .int .i64 (0), .int .i64 (0), .int .i64 (0), .int .i64 (0), .int .i64 (0)])], 3, [], []⟩) h (fun Q h => ?_) (fun v10 h => ?_)
      · conv => whnf
        refine XSplit.mk (fun e => ?_) (fun e => ?_)
        · replace h := XSplit.t h e
          conv => whnf
          refine ⟨_, Weak.a ?_, h⟩; (conv => whnf); exact ⟨rfl, rfl, rfl, rfl, rfl⟩
        · replace h := XSplit.f h e
          conv => whnf
          refine ⟨_, Weak.a ?_, h⟩; (conv => whnf); exact ⟨rfl, rfl, rfl, rfl, rfl⟩
      · conv => whnf
        refine ASeq.joinW tab_ok mixed_ (fun v11 => ⟨[(2, .ptr 0 0), (3, .ptr 1 0), (4, .ptr 2 0)], [(0, .box 47 [.int .i64 (0), .int .i64 (0), .int .i64 (v8), .int .i64 (v9), .int .i64 (v11.fst), .int .i64 (v11.snd.fst), .int .i64 (v11.snd.snd.fst), .int .i64 (v11.snd.snd.snd.fst), .int .i64 (v11.snd.snd.snd.snd.fst), .int .i64 (v11.snd.snd.snd.snd.snd.fst), .int .i64 (v11.snd.snd.snd.snd.snd.snd.fst), .int .i64 (v11.snd.snd.snd.snd.snd.snd.snd), .sl (a12) 48 (a13), .sl (a14) 21 (a15), .int .i64 (a16), .int .i64 (a17), .int .i64 (a18), .int .i64 (a19), .int .i64 (a20), .int .i64 (a21), .int .i64 (0), .int .i64 (0)]), (1, .box 121 [.bool (a24), .bool (a25), .bool (a26), .bool (a27), .bool (a28), .bool (a29), .bool (a30), .bool (a31)]), (2, .box 47 [.int .i64 (0), .int .i64 (0), .int .i64 (0), .int .i64 (0), .int .i64 (0), .int .i64 (0), .int .i64 (0), .int .i64 (0), .int .i64 (0), .int .i64 (0), .int .i64 (0), .int .i64 (0), .nils, .nils, .int .i64 (0), .int .i64 (0), .int .i64 (0), .int .i64 (0), .int .i64 (0), .int .i64 (0), .int .i64 (0), .int .i64 (0)])], 3, [], []⟩) h (fun Q h => ?_) (fun v11 h => ?_)
        · conv => whnf
          refine XSplit.mk (fun e => ?_) (fun e => ?_)
          · replace h := XSplit.t h e
            conv => whnf
            refine ⟨_, Weak.a ?_, h⟩; (conv => whnf); exact ⟨rfl, rfl, rfl, rfl, rfl⟩
          · replace h := XSplit.f h e
            conv => whnf
            refine ⟨_, Weak.a ?_, h⟩; (conv => whnf); exact ⟨rfl, rfl, rfl, rfl, rfl⟩
        · conv => whnf
          refine ASeq.joinW tab_ok mixed_ (fun v12 => ⟨[(2, .ptr 0 0), (3, .ptr 1 0), (4, .ptr 2 0)], [(0, .box 47 [.int .i64 (0), .int .i64 (0), .int .i64 (v8), .int .i64 (v9), .int .i64 (v11.fst), .int .i64 (v11.snd.fst), .int .i64 (v11.snd.snd.fst), .int .i64 (v11.snd.snd.snd.fst), .int .i64 (v11.snd.snd.snd.snd.fst), .int .i64 (v11.snd.snd.snd.snd.snd.fst), .int .i64 (v11.snd.snd.snd.snd.snd.snd.fst), .int .i64 (v11.snd.snd.snd.snd.snd.snd.snd), .sl (v12.fst) 48 (v12.snd.fst), .sl (v12.snd.snd.fst) 21 (v12.snd.snd.snd), .int .i64 (a16), .int .i64 (a17), .int .i64 (a18), .int .i64 (a19), .int .i64 (a20), .int .i64 (a21), .int .i64 (0), .int .i64 (0)]), (1, .box 121 [.bool (a24), .bool (a25), .bool (a26), .bool (a27), .bool (a28), .bool (a29), .bool (a30), .bool (a31)]), (2, .box 47 [.int .i64 (0), .int .i64 (0), .int .i64 (0), .int .i64 (0), .int .i64 (0), .int .i64 (0), .int .i64 (0), .int .i64 (0), .int .i64 (0), .int .i64 (0), .int .i64 (0), .int .i64 (0), .nils, .nils, .int .i64 (0), .int .i64 (0), .int .i64 (0), .int .i64 (0), .int .i64 (0), .int .i64 (0), .int .i64 (0), .int .i64 (0)])], 3, [], []⟩) h (fun Q h => ?_) (fun v12 h => ?_)
          · conv => whnf
            refine XSplit.mk (fun e => ?_) (fun e => ?_)
            · replace h := XSplit.t h e
              conv => whnf
              refine ⟨_, Weak.a ?_, h⟩; (conv => whnf); exact ⟨rfl, rfl, rfl, rfl, rfl⟩
            · replace h := XSplit.f h e
              conv => whnf
              refine ⟨_, Weak.a ?_, h⟩; (conv => whnf); exact ⟨rfl, rfl, rfl, rfl, rfl⟩
          · conv => whnf
            refine ASeq.joinW tab_ok mixed_ (fun v13 => ⟨[(2, .ptr 0 0), (3, .ptr 1 0), (4, .ptr 2 0)], [(0, .box 47 [.int .i64 (0), .int .i64 (0), .int .i64 (v8), .int .i64 (v9), .int .i64 (v11.fst), .int .i64 (v11.snd.fst), .int .i64 (v11.snd.snd.fst), .int .i64 (v11.snd.snd.snd.fst), .int .i64 (v11.snd.snd.snd.snd.fst), .int .i64 (v11.snd.snd.snd.snd.snd.fst), .int .i64 (v11.snd.snd.snd.snd.snd.snd.fst), .int .i64 (v11.snd.snd.snd.snd.snd.snd.snd), .sl (v12.fst) 48 (v12.snd.fst), .sl (v12.snd.snd.fst) 21 (v12.snd.snd.snd), .int .i64 (v13.fst), .int .i64 (v13.snd.fst), .int .i64 (a18), .int .i64 (a19), .int .i64 (v13.snd.snd), .int .i64 (a21), .int .i64 (0), .int .i64 (0)]), (1, .box 121 [.bool (a24), .bool (a25), .bool (a26), .bool (a27), .bool (a28), .bool (a29), .bool (a30), .bool (a31)]), (2, .box 47 [.int .i64 (0), .int .i64 (0), .int .i64 (0), .int .i64 (0), .int .i64 (0), .int .i64 (0), .int .i64 (0), .int .i64 (0), .int .i64 (0), .int .i64 (0), .int .i64 (0), .int .i64 (0), .nils, .nils, .int .i64 (0), .int .i64 (0), .int .i64 (0), .int .i64 (0), .int .i64 (0), .int .i64 (0), .int .i64 (0), .int .i64 (0)])], 3, [], []⟩) h (fun Q h => ?_) (fun v13 h => ?_)
            · conv => whnf
              refine XSplit.mk (fun e => ?_) (fun e => ?_)
              · replace h := XSplit.t h e
                conv => whnf
                refine ⟨_, Weak.a ?_, h⟩; (conv => whnf); exact ⟨rfl, rfl, rfl, rfl, rfl⟩
              · replace h := XSplit.f h e
                conv => whnf
                refine ⟨_, Weak.a ?_, h⟩; (conv => whnf); exact ⟨rfl, rfl, rfl, rfl, rfl⟩
            · conv => whnf
              refine ASeq.joinW tab_ok mixed_ (fun v14 => ⟨[(2, .ptr 0 0), (3, .ptr 1 0), (4, .ptr 2 0)], [(0, .box 47 [.int .i64 (0), .int .i64 (0), .int .i64 (v8), .int .i64 (v9), .int .i64 (v11.fst), .int .i64 (v11.snd.fst), .int .i64 (v11.snd.snd.fst), .int .i64 (v11.snd.snd.snd.fst), .int .i64 (v11.snd.snd.snd.snd.fst), .int .i64 (v11.snd.snd.snd.snd.snd.fst), .int .i64 (v11.snd.snd.snd.snd.snd.snd.fst), .int .i64 (v11.snd.snd.snd.snd.snd.snd.snd), .sl (v12.fst) 48 (v12.snd.fst), .sl (v12.snd.snd.fst) 21 (v12.snd.snd.snd), .int .i64 (v13.fst), .int .i64 (v13.snd.fst), .int .i64 (v14.fst), .int .i64 (v14.snd), .int .i64 (v13.snd.snd), .int .i64 (a21), .int .i64 (0), .int .i64 (0)]), (1, .box 121 [.bool (a24), .bool (a25), .bool (a26), .bool (a27), .bool (a28), .bool (a29), .bool (a30), .bool (a31)]), (2, .box 47 [.int .i64 (0), .int .i64 (0), .int .i64 (0), .int .i64 (0), .int .i64 (0), .int .i64 (0), .int .i64 (0), .int .i64 (0), .int .i64 (0), .int .i64 (0), .int .i64 (0), .int .i64 (0), .nils, .nils, .int .i64 (0), .int .i64 (0), .int .i64 (0), .int .i64 (0), .int .i64 (0), .int .i64 (0), .int .i64 (0), .int .i64 (0)])], 3, [], []⟩) h (fun Q h => ?_) (fun v14 h => ?_)
              · conv => whnf
                refine XSplit.mk (fun e => ?_) (fun e => ?_)
                · replace h := XSplit.t h e
                  conv => whnf
                  refine ⟨_, Weak.a ?_, h⟩; (conv => whnf); exact ⟨rfl, rfl, rfl, rfl, rfl⟩
                · replace h := XSplit.f h e
                  conv => whnf
                  refine ⟨_, Weak.a ?_, h⟩; (conv => whnf); exact ⟨rfl, rfl, rfl, rfl, rfl⟩
              · conv => whnf
                refine ASeq.joinW tab_ok mixed_ (fun v15 => ⟨[(2, .ptr 0 0), (4, .ptr 1 0)], [(0, .box 47 [.int .i64 (0), .int .i64 (0), .int .i64 (v8), .int .i64 (v9), .int .i64 (v11.fst), .int .i64 (v11.snd.fst), .int .i64 (v11.snd.snd.fst), .int .i64 (v11.snd.snd.snd.fst), .int .i64 (v11.snd.snd.snd.snd.fst), .int .i64 (v11.snd.snd.snd.snd.snd.fst), .int .i64 (v11.snd.snd.snd.snd.snd.snd.fst), .int .i64 (v11.snd.snd.snd.snd.snd.snd.snd), .sl (v12.fst) 48 (v12.snd.fst), .sl (v12.snd.snd.fst) 21 (v12.snd.snd.snd), .int .i64 (v13.fst), .int .i64 (v13.snd.fst), .int .i64 (v14.fst), .int .i64 (v14.snd), .int .i64 (v13.snd.snd), .int .i64 (v15), .int .i64 (0), .int .i64 (0)]), (1, .box 47 [.int .i64 (0), .int .i64 (0), .int .i64 (0), .int .i64 (0), .int .i64 (0), .int .i64 (0), .int .i64 (0), .int .i64 (0), .int .i64 (0), .int .i64 (0), .int .i64 (0), .int .i64 (0), .nils, .nils, .int .i64 (0), .int .i64 (0), .int .i64 (0), .int .i64 (0), .int .i64 (0), .int .i64 (0), .int .i64 (0), .int .i64 (0)])], 2, [], []⟩) h (fun Q h => ?_) (fun v15 h => ?_)
                · conv => whnf
                  refine XSplit.mk (fun e => ?_) (fun e => ?_)
                  · replace h := XSplit.t h e
                    conv => whnf
                    refine ⟨_, Weak.a ?_, h⟩; (conv => whnf); exact ⟨rfl, rfl, rfl, rfl, rfl⟩
                  · replace h := XSplit.f h e
                    conv => whnf
                    refine ⟨_, Weak.a ?_, h⟩; (conv => whnf); exact ⟨rfl, rfl, rfl, rfl, rfl⟩
                · conv => whnf
                  refine ⟨_, Weak.a ?_, ?_, h⟩; (conv => whnf); exact ⟨rfl, rfl, rfl, rfl, rfl⟩; exact rfl
theorem c_model_empty {a0 : Int} {a1 : Int} {a2 : Int} {a3 : Int} {a4 : Int} {a5 : Int} {a6 : Int} {a7 : Int} {a8 : Int} {a9 : Int} {a10 : Int} {a11 : Int} {a12 : Bool} {a13 : Rws} {a14 : Bool} {a15 : Rws} {a16 : Int} {a17 : Int} {a18 : Int} {a19 : Int} {a20 : Int} {a21 : Int} {a22 : Int} {a23 : Int} {Q : Bool → Prop} {R : AV → List AB → Prop} (h : (g_model_empty a0 a1 a2 a3 a4 a5 a6 a7 a8 a9 a10 a11 a12 a13 a14 a15 a16 a17 a18 a19 a20 a21 a22 a23).run Q) (k : ∀ r, Q r → R (.bool (r)) ([])) : ACalls Try.prog tab 59 [.agg [.int .i64 (a0), .int .i64 (a1), .int .i64 (a2), .int .i64 (a3), .int .i64 (a4), .int .i64 (a5), .int .i64 (a6), .int .i64 (a7), .int .i64 (a8), .int .i64 (a9), .int .i64 (a10), .int .i64 (a11), .sl (a12) 48 (a13), .sl (a14) 21 (a15), .int .i64 (a16), .int .i64 (a17), .int .i64 (a18), .int .i64 (a19), .int .i64 (a20), .int .i64 (a21), .int .i64 (a22), .int .i64 (a23)]] [] R := by
  refine ACalls.out (fun r => .bool (r)) (fun r => []) (Q := Q) (ACalls.introX (mv := mv) tab_ok mixed_ (fn := Try.f59) (by kernel_rfl) rfl (by kernel_rfl) (by kernel_rfl) (leB rfl) ?_) (fun v => by first | exact ⟨rfl, leB rfl⟩ | (cases v <;> exact ⟨rfl, leB rfl⟩)) k
  conv => whnf
  refine ⟨_, Weak.a ?_, ?_, h⟩; (conv => whnf); exact ⟨rfl, rfl, rfl, rfl, rfl⟩; exact rfl
theorem c_window_within {a0 : Int} {a1 : Int} {a2 : Int} {Q : Bool → Prop} {R : AV → List AB → Prop} (h : (g_window_within a0 a1 a2).run Q) (k : ∀ r, Q r → R (.bool (r)) ([])) : ACalls Try.prog tab 102 [.int .i64 (a0), .int .i64 (a1), .int .i64 (a2)] [] R := by
  refine ACalls.out (fun r => .bool (r)) (fun r => []) (Q := Q) (ACalls.introX (mv := mv) tab_ok mixed_ (fn := Try.f102) (by kernel_rfl) rfl (by kernel_rfl) (by kernel_rfl) (leB rfl) ?_) (fun v => by first | exact ⟨rfl, leB rfl⟩ | (cases v <;> exact ⟨rfl, leB rfl⟩)) k
  conv => whnf
  refine ⟨_, Weak.a ?_, ?_, h⟩; (conv => whnf); exact ⟨rfl, rfl, rfl, rfl, rfl⟩; exact rfl
theorem c_window_side {a0 : Int} {a1 : Int} {a2 : Int} {a3 : Int} {Q : Bool → Prop} {R : AV → List AB → Prop} (h : (g_window_side a0 a1 a2 a3).run Q) (k : ∀ r, Q r → R (.bool (r)) ([])) : ACalls Try.prog tab 125 [.int .i64 (a0), .int .i64 (a1), .int .i64 (a2), .int .i64 (a3)] [] R := by
  refine ACalls.out (fun r => .bool (r)) (fun r => []) (Q := Q) (ACalls.introX (mv := mv) tab_ok mixed_ (fn := Try.f125) (by kernel_rfl) rfl (by kernel_rfl) (by kernel_rfl) (leB rfl) ?_) (fun v => by first | exact ⟨rfl, leB rfl⟩ | (cases v <;> exact ⟨rfl, leB rfl⟩)) k
  conv => whnf
  refine ASeq.joinW tab_ok mixed_ (fun v5 => ⟨[(8, .bool (v5))], [], 0, [], []⟩) h (fun Q h => ?_) (fun v5 h => ?_)
  · conv => whnf
    refine ACalls.inn (c_window_within (W.bindE h) (fun v6 h => ?_)) ⟨rfl, rfl⟩
    conv => whnf
    refine XSplit.mk (fun e => ?_) (fun e => ?_)
    · replace h := XSplit.t h e
      conv => whnf
      refine ACalls.inn (c_window_within (W.bindE h) (fun v7 h => ?_)) ⟨rfl, rfl⟩
      conv => whnf
      refine XSplit.mk (fun e => ?_) (fun e => ?_)
      · replace h := XSplit.t h e
        conv => whnf
        refine ACalls.inn (c_window_within (W.bindE h) (fun v8 h => ?_)) ⟨rfl, rfl⟩
        conv => whnf
        refine XSplit.mk (fun e => ?_) (fun e => ?_)
        · replace h := XSplit.t h e
          conv => whnf
          refine ACalls.inn (c_window_within (W.bindE h) (fun v9 h => ?_)) ⟨rfl, rfl⟩
          conv => whnf
          refine ⟨_, Weak.a ?_, h⟩; (conv => whnf); exact ⟨rfl, rfl, rfl, rfl, rfl⟩
        · replace h := XSplit.f h e
          conv => whnf
          refine ⟨_, Weak.a ?_, h⟩; (conv => whnf); exact ⟨rfl, rfl, rfl, rfl, rfl⟩
      · replace h := XSplit.f h e
        conv => whnf
        refine ⟨_, Weak.a ?_, h⟩; (conv => whnf); exact ⟨rfl, rfl, rfl, rfl, rfl⟩
    · replace h := XSplit.f h e
      conv => whnf
      refine ⟨_, Weak.a ?_, h⟩; (conv => whnf); exact ⟨rfl, rfl, rfl, rfl, rfl⟩
  · conv => whnf
    refine ⟨_, Weak.a ?_, ?_, h⟩; (conv => whnf); exact ⟨rfl, rfl, rfl, rfl, rfl⟩; exact rfl
theorem c_window_Valid {a0 : Int} {a1 : Int} {a2 : Int} {a3 : Int} {a4 : Int} {a5 : Int} {a6 : Int} {a7 : Int} {Q : Bool → Prop} {R : AV → List AB → Prop} (h : (g_window_Valid a0 a1 a2 a3 a4 a5 a6 a7).run Q) (k : ∀ r, Q r → R (.bool (r)) ([])) : ACalls Try.prog tab 113 [.agg [.int .i64 (a0), .int .i64 (a1), .int .i64 (a2), .int .i64 (a3), .int .i64 (a4), .int .i64 (a5), .int .i64 (a6), .int .i64 (a7)]] [] R := by
  refine ACalls.out (fun r => .bool (r)) (fun r => []) (Q := Q) (ACalls.introX (mv := mv) tab_ok mixed_ (fn := Try.f113) (by kernel_rfl) rfl (by kernel_rfl) (by kernel_rfl) (leB rfl) ?_) (fun v => by first | exact ⟨rfl, leB rfl⟩ | (cases v <;> exact ⟨rfl, leB rfl⟩)) k
  conv => whnf
  refine ASeq.joinW tab_ok mixed_ (fun v3 => ⟨[(2, .bool (v3))], [], 0, [], []⟩) h (fun Q h => ?_) (fun v3 h => ?_)
  · conv => whnf
    refine ACalls.inn (c_window_side (W.bindE h) (fun v4 h => ?_)) ⟨rfl, rfl⟩
    conv => whnf
    refine XSplit.mk (fun e => ?_) (fun e => ?_)
    · replace h := XSplit.t h e
      conv => whnf
      refine ACalls.inn (c_window_side (W.bindE h) (fun v5 h => ?_)) ⟨rfl, rfl⟩
      conv => whnf
      refine ⟨_, Weak.a ?_, h⟩; (conv => whnf); exact ⟨rfl, rfl, rfl, rfl, rfl⟩
    · replace h := XSplit.f h e
      conv => whnf
      refine ⟨_, Weak.a ?_, h⟩; (conv => whnf); exact ⟨rfl, rfl, rfl, rfl, rfl⟩
  · conv => whnf
    refine ⟨_, Weak.a ?_, ?_, h⟩; (conv => whnf); exact ⟨rfl, rfl, rfl, rfl, rfl⟩; exact rfl
theorem c_window_Out {a0 : Int} {a1 : Int} {a2 : Int} {a3 : Int} {a4 : Int} {a5 : Int} {a6 : Int} {a7 : Int} {a8 : Int} {a9 : Int} {a10 : Int} {Q : Int × Int × Int → Prop} {R : AV → List AB → Prop} (h : (g_window_Out a0 a1 a2 a3 a4 a5 a6 a7 a8 a9 a10).run Q) (k : ∀ r, Q r → R (.tup [.int .i64 (r.fst), .int .i64 (r.snd.fst), .int .i64 (r.snd.snd)]) ([])) : ACalls Try.prog tab 88 [.agg [.int .i64 (a0), .int .i64 (a1), .int .i64 (a2)], .agg [.int .i64 (a3), .int .i64 (a4), .int .i64 (a5), .int .i64 (a6), .int .i64 (a7), .int .i64 (a8), .int .i64 (a9), .int .i64 (a10)]] [] R := by
  refine ACalls.out (fun r => .tup [.int .i64 (r.fst), .int .i64 (r.snd.fst), .int .i64 (r.snd.snd)]) (fun r => []) (Q := Q) (ACalls.introX (mv := mv) tab_ok mixed_ (fn := Try.f88) (by kernel_rfl) rfl (by kernel_rfl) (by kernel_rfl) (leB rfl) ?_) (fun v => by first | exact ⟨rfl, leB rfl⟩ | (cases v <;> exact ⟨rfl, leB rfl⟩)) k
  conv => whnf
  refine ASeq.go tab_ok mixed_ ?_
  conv => whnf
  refine ACalls.inn (c_shape_Elems (W.bindE h) (fun v2 h => ?_)) ⟨rfl, rfl⟩
  conv => whnf
  refine XSplit.mk (fun e => ?_) (fun e => ?_)
  · replace h := XSplit.t h e
    conv => whnf
    refine ⟨_, Weak.a ?_, ?_, h⟩; (conv => whnf); exact ⟨rfl, rfl, rfl, rfl, rfl⟩; exact rfl
  · replace h := XSplit.f h e
    conv => whnf
    refine ASeq.go tab_ok mixed_ ?_
    conv => whnf
    refine ACalls.inn (c_window_Valid (W.bindE h) (fun v3 h => ?_)) ⟨rfl, rfl⟩
    conv => whnf
    refine XSplit.mk (fun e => ?_) (fun e => ?_)
    · replace h := XSplit.t h e
      conv => whnf
      refine ⟨_, Weak.a ?_, ?_, h⟩; (conv => whnf); exact ⟨rfl, rfl, rfl, rfl, rfl⟩; exact rfl
    · replace h := XSplit.f h e
      conv => whnf
      refine XDraw.q [0, 1, 2, 3, 4, 5, 6, 7, 8, 9, 10, 11, 12, 13, 14, 15, 16, 17, 18, 19, 20, 21, 22, 23] (by decide +kernel) ?_
      conv => whnf
      refine ASeq.go tab_ok mixed_ ?_
      conv => whnf
      refine XSplit.mk (fun e => ?_) (fun e => ?_)
      · replace h := XSplit.t h e
        conv => whnf
        refine ⟨_, Weak.a ?_, ?_, h⟩; (conv => whnf); exact ⟨rfl, rfl, rfl, rfl, rfl⟩; exact rfl
      · replace h := XSplit.f h e
        conv => whnf
        refine XDraw.q [0, 1, 2, 3, 4, 5, 6, 7, 8, 9, 10, 11, 12] (by decide +kernel) ?_
        conv => whnf
        refine XNeed.mk (XNeed.c h) ?_; replace h := XNeed.x h
        conv => whnf
        refine XNeed.mk (XNeed.c h) ?_; replace h := XNeed.x h
        conv => whnf
        refine ⟨_, Weak.a ?_, ?_, h⟩; (conv => whnf); exact ⟨rfl, rfl, rfl, rfl, rfl⟩; exact rfl
theorem c_model_makes {a0 : Int} {a1 : Int} {a2 : Int} {a3 : Int} {a4 : Int} {a5 : Int} {a6 : Int} {a7 : Int} {a8 : Int} {a9 : Int} {a10 : Int} {a11 : Int} {a12 : Bool} {a13 : Rws} {a14 : Bool} {a15 : Rws} {a16 : Int} {a17 : Int} {a18 : Int} {a19 : Int} {a20 : Int} {a21 : Int} {a22 : Int} {a23 : Int} {a24 : Int} {a25 : Int} {a26 : Int} {Q : Int × Int × Int × Int × Int × Int → Prop} {R : AV → List AB → Prop} (h : (g_model_makes a0 a1 a2 a3 a4 a5 a6 a7 a8 a9 a10 a11 a12 a13 a14 a15 a16 a17 a18 a19 a20 a21 a22 a23 a24 a25 a26).run Q) (k : ∀ r, Q r → R (.tup [.agg [.int .i64 (r.fst), .int .i64 (r.snd.fst), .int .i64 (r.snd.snd.fst)], .int .i64 (r.snd.snd.snd.fst), .int .i64 (r.snd.snd.snd.snd.fst), .int .i64 (r.snd.snd.snd.snd.snd)]) ([])) : ACalls Try.prog tab 61 [.agg [.int .i64 (a0), .int .i64 (a1), .int .i64 (a2), .int .i64 (a3), .int .i64 (a4), .int .i64 (a5), .int .i64 (a6), .int .i64 (a7), .int .i64 (a8), .int .i64 (a9), .int .i64 (a10), .int .i64 (a11), .sl (a12) 48 (a13), .sl (a14) 21 (a15), .int .i64 (a16), .int .i64 (a17), .int .i64 (a18), .int .i64 (a19), .int .i64 (a20), .int .i64 (a21), .int .i64 (a22), .int .i64 (a23)], .agg [.int .i64 (a24), .int .i64 (a25), .int .i64 (a26)]] [] R := by
  refine ACalls.out (fun r => .tup [.agg [.int .i64 (r.fst), .int .i64 (r.snd.fst), .int .i64 (r.snd.snd.fst)], .int .i64 (r.snd.snd.snd.fst), .int .i64 (r.snd.snd.snd.snd.fst), .int .i64 (r.snd.snd.snd.snd.snd)]) (fun r => []) (Q := Q) (ACalls.introX (mv := mv) tab_ok mixed_ (fn := Try.f61) (by kernel_rfl) rfl (by kernel_rfl) (by kernel_rfl) (leB rfl) ?_) (fun v => by first | exact ⟨rfl, leB rfl⟩ | (cases v <;> exact ⟨rfl, leB rfl⟩)) k
  conv => whnf
  refine ACalls.inn (c_model_of (W.bindE h) (fun v5 h => ?_)) ⟨rfl, rfl⟩
  conv => whnf
  refine ASeq.joinE tab_ok mixed_ (fun v6 => ⟨[(2, .ptr 0 0), (3, .ptr 1 0), (4, .ptr 2 0), (5, .int .i64 (0)), (6, .int .i64 (0)), (7, .int .i64 (0)), (10, .ptr 3 0), (11, .int .i64 (v6.fst))], [(0, .box 47 [.int .i64 (a0), .int .i64 (a1), .int .i64 (a2), .int .i64 (a3), .int .i64 (a4), .int .i64 (a5), .int .i64 (a6), .int .i64 (a7), .int .i64 (a8), .int .i64 (a9), .int .i64 (a10), .int .i64 (a11), .sl (a12) 48 (a13), .sl (a14) 21 (a15), .int .i64 (a16), .int .i64 (a17), .int .i64 (a18), .int .i64 (a19), .int .i64 (a20), .int .i64 (a21), .int .i64 (a22), .int .i64 (a23)]), (1, .box 23 [.int .i64 (a24), .int .i64 (a25), .int .i64 (a26)]), (2, .box 23 [.int .i64 (0), .int .i64 (0), .int .i64 (0)]), (3, .box 23 [.int .i64 (v6.snd.fst), .int .i64 (v6.snd.snd), .int .i64 (a26)])], 4, [], []⟩) h (fun Q h => ?_) (fun v6 h => ?_)
  · conv => whnf
    refine XSplit.mk (fun e => ?_) (fun e => ?_)
    · replace h := XSplit.t h e
      conv => whnf
      refine ACalls.inn (c_window_Out (W.bindE h) (fun v7 h => ?_)) ⟨rfl, rfl⟩
      conv => whnf
      refine ASeq.go tab_ok mixed_ ?_
      conv => whnf
      refine XSplit.mk (fun e => ?_) (fun e => ?_)
      · replace h := XSplit.t h e
        conv => whnf
        refine ⟨_, Weak.a ?_, ?_, h⟩; (conv => whnf); exact ⟨rfl, rfl, rfl, rfl, rfl⟩; exact rfl
      · replace h := XSplit.f h e
        conv => whnf
        refine XDraw.d [0, 1, 2, 3, 4, 5, 6, 7, 8, 9, 10, 11, 12, 13] [[], [], [], [], [], [], [], [], [], [], [4], [], [4], []] (by decide +kernel) ?_
        conv => whnf
        refine ⟨_, Weak.a ?_, h⟩; (conv => whnf); exact ⟨rfl, rfl, rfl, rfl, rfl⟩
    · replace h := XSplit.f h e
      conv => whnf
      refine ⟨_, Weak.a ?_, h⟩; (conv => whnf); exact ⟨rfl, rfl, rfl, rfl, rfl⟩
  · conv => whnf
    refine ASeq.joinW tab_ok mixed_ (fun v8 => ⟨[(4, .ptr 0 0), (5, .int .i64 (0)), (6, .int .i64 (0)), (7, .int .i64 (0)), (10, .ptr 1 0), (11, .int .i64 (v8.fst)), (15, .int .i64 (v8.snd.fst))], [(0, .box 23 [.int .i64 (0), .int .i64 (0), .int .i64 (0)]), (1, .box 23 [.int .i64 (v8.snd.snd.fst), .int .i64 (v8.snd.snd.snd.fst), .int .i64 (v8.snd.snd.snd.snd)])], 2, [], []⟩) h (fun Q h => ?_) (fun v8 h => ?_)
    · conv => whnf
      refine XSplit.mk (fun e => ?_) (fun e => ?_)
      · replace h := XSplit.t h e
        conv => whnf
        refine XDraw.d [0, 1, 2, 3, 4, 5, 6, 7, 8, 9, 10, 11, 12] [[], [], [], [], [], [], [], [], [], [], [], [], [3]] (by decide +kernel) ?_
        conv => whnf
        refine ⟨_, Weak.a ?_, h⟩; (conv => whnf); exact ⟨rfl, rfl, rfl, rfl, rfl⟩
      · replace h := XSplit.f h e
        conv => whnf
        refine XSplit.mk (fun e => ?_) (fun e => ?_)
        · replace h := XSplit.t h e
          conv => whnf
          refine XDraw.d [0, 1, 2, 3, 4, 5] [[], [], [], [], [], [3]] (by decide +kernel) ?_
          conv => whnf
          refine ⟨_, Weak.a ?_, h⟩; (conv => whnf); exact ⟨rfl, rfl, rfl, rfl, rfl⟩
        · replace h := XSplit.f h e
          conv => whnf
          refine ASeq.joinW tab_ok mixed_ (fun v9 => ⟨[(4, .ptr 0 0), (5, .int .i64 (0)), (6, .int .i64 (0)), (7, .int .i64 (0)), (10, .ptr 1 0), (11, .int .i64 (v6.fst)), (15, .int .i64 (0)), (74, .bool (v9))], [(0, .box 23 [.int .i64 (0), .int .i64 (0), .int .i64 (0)]), (1, .box 23 [.int .i64 (v6.snd.fst), .int .i64 (v6.snd.snd), .int .i64 (a26)])], 2, [], []⟩) h (fun Q h => ?_) (fun v9 h => ?_)
          · conv => whnf
            refine XSplit.mk (fun e => ?_) (fun e => ?_)
            · replace h := XSplit.t h e
              conv => whnf
              refine ⟨_, Weak.a ?_, h⟩; (conv => whnf); exact ⟨rfl, rfl, rfl, rfl, rfl⟩
            · replace h := XSplit.f h e
              conv => whnf
              refine ⟨_, Weak.a ?_, h⟩; (conv => whnf); exact ⟨rfl, rfl, rfl, rfl, rfl⟩
          · conv => whnf
            refine XSplit.mk (fun e => ?_) (fun e => ?_)
            · replace h := XSplit.t h e
              conv => whnf
              refine ⟨_, Weak.a ?_, h⟩; (conv => whnf); exact ⟨rfl, rfl, rfl, rfl, rfl⟩
            · replace h := XSplit.f h e
              conv => whnf
              refine ⟨_, Weak.a ?_, h⟩; (conv => whnf); exact ⟨rfl, rfl, rfl, rfl, rfl⟩
    · conv => whnf
      refine XDraw.d [0, 1, 2, 3, 4, 5, 6, 7, 8, 9, 10, 11, 12, 13, 14, 15] [[], [], [], [], [], [], [], [], [], [], [], [], [0], [], [], []] (by decide +kernel) ?_
      conv => whnf
      refine ⟨_, Weak.a ?_, ?_, h⟩; (conv => whnf); exact ⟨rfl, rfl, rfl, rfl, rfl⟩; exact rfl
theorem c_fixq_Valid {a0 : Int} {a1 : Int} {Q : Bool → Prop} {R : AV → List AB → Prop} (h : (g_fixq_Valid a0 a1).run Q) (k : ∀ r, Q r → R (.bool (r)) ([])) : ACalls Try.prog tab 62 [.agg [.int .i64 (a0), .int .i64 (a1)]] [] R := by
  refine ACalls.out (fun r => .bool (r)) (fun r => []) (Q := Q) (ACalls.introX (mv := mv) tab_ok mixed_ (fn := Try.f62) (by kernel_rfl) rfl (by kernel_rfl) (by kernel_rfl) (leB rfl) ?_) (fun v => by first | exact ⟨rfl, leB rfl⟩ | (cases v <;> exact ⟨rfl, leB rfl⟩)) k
  conv => whnf
  refine ⟨_, Weak.a ?_, ?_, h⟩; (conv => whnf); exact ⟨rfl, rfl, rfl, rfl, rfl⟩; exact rfl
theorem c_model_op {a0 : Int} {a1 : Int} {a2 : Int} {a3 : Int} {a4 : Int} {a5 : Int} {a6 : Int} {a7 : Int} {a8 : Int} {a9 : Int} {a10 : Int} {a11 : Int} {a12 : Bool} {a13 : Rws} {a14 : Bool} {a15 : Rws} {a16 : Int} {a17 : Int} {a18 : Int} {a19 : Int} {a20 : Int} {a21 : Int} {a22 : Int} {a23 : Int} {a24 : Bool} {a25 : Rws} {Q : Int × Int × Int × Int × Int → Prop} {R : AV → List AB → Prop} (h : (g_model_op a0 a1 a2 a3 a4 a5 a6 a7 a8 a9 a10 a11 a12 a13 a14 a15 a16 a17 a18 a19 a20 a21 a22 a23 a24 a25).run Q) (k : ∀ r, Q r → R (.tup [.agg [.int .i64 (r.fst), .int .i64 (r.snd.fst), .int .i64 (r.snd.snd.fst)], .int .i64 (r.snd.snd.snd.fst), .int .i64 (r.snd.snd.snd.snd)]) ([])) : ACalls Try.prog tab 37 [.agg [.int .i64 (a0), .int .i64 (a1), .int .i64 (a2), .int .i64 (a3), .int .i64 (a4), .int .i64 (a5), .int .i64 (a6), .int .i64 (a7), .int .i64 (a8), .int .i64 (a9), .int .i64 (a10), .int .i64 (a11), .sl (a12) 48 (a13), .sl (a14) 21 (a15), .int .i64 (a16), .int .i64 (a17), .int .i64 (a18), .int .i64 (a19), .int .i64 (a20), .int .i64 (a21), .int .i64 (a22), .int .i64 (a23)], .sl (a24) 23 (a25)] [] R := by
  refine ACalls.out (fun r => .tup [.agg [.int .i64 (r.fst), .int .i64 (r.snd.fst), .int .i64 (r.snd.snd.fst)], .int .i64 (r.snd.snd.snd.fst), .int .i64 (r.snd.snd.snd.snd)]) (fun r => []) (Q := Q) (ACalls.introX (mv := mv) tab_ok mixed_ (fn := Try.f37) (by kernel_rfl) rfl (by kernel_rfl) (by kernel_rfl) (leB rfl) ?_) (fun v => by first | exact ⟨rfl, leB rfl⟩ | (cases v <;> exact ⟨rfl, leB rfl⟩)) k
  conv => whnf
  refine ACalls.inn (c_model_of (W.bindE h) (fun v11 h => ?_)) ⟨rfl, rfl⟩
  conv => whnf
  refine ASeq.go tab_ok mixed_ ?_
  conv => whnf
  refine XSplit.mk (fun e => ?_) (fun e => ?_)
  · replace h := XSplit.t h e
    conv => whnf
    refine ⟨_, Weak.a ?_, ?_, h⟩; (conv => whnf); exact ⟨rfl, rfl, rfl, rfl, rfl⟩; exact rfl
  · replace h := XSplit.f h e
    conv => whnf
    refine XSplit.mk (fun e => ?_) (fun e => ?_)
    · replace h := XSplit.t h e
      conv => whnf
      refine ⟨_, Weak.a ?_, ?_, h⟩; (conv => whnf); exact ⟨rfl, rfl, rfl, rfl, rfl⟩; exact rfl
    · replace h := XSplit.f h e
      conv => whnf
      refine ACalls.inn (c_model_bare (W.bindE h) (fun v12 h => ?_)) ⟨rfl, rfl⟩
      conv => whnf
      refine ACalls.inn (c_model_empty (W.bindE h) (fun v13 h => ?_)) ⟨rfl, rfl⟩
      conv => whnf
      refine XSplit.mk (fun e => ?_) (fun e => ?_)
      · replace h := XSplit.t h e
        conv => whnf
        refine ⟨_, Weak.a ?_, ?_, h⟩; (conv => whnf); exact ⟨rfl, rfl, rfl, rfl, rfl⟩; exact rfl
      · replace h := XSplit.f h e
        conv => whnf
        refine XSplit.mk (fun e => ?_) (fun e => ?_)
        · replace h := XSplit.t h e
          conv => whnf
          refine ⟨_, Weak.a ?_, ?_, h⟩; (conv => whnf); exact ⟨rfl, rfl, rfl, rfl, rfl⟩; exact rfl
        · replace h := XSplit.f h e
          conv => whnf
          refine XNeed.mk (XNeed.c h) ?_; replace h := XNeed.x h
          conv => whnf
          refine ACalls.inn (c_model_makes (W.bindE h) (fun v14 h => ?_)) ⟨rfl, rfl⟩
          conv => whnf
          refine ASeq.go tab_ok mixed_ ?_
          conv => whnf
          refine XSplit.mk (fun e => ?_) (fun e => ?_)
          · replace h := XSplit.t h e
            conv => whnf
            refine ⟨_, Weak.a ?_, ?_, h⟩; (conv => whnf); exact ⟨rfl, rfl, rfl, rfl, rfl⟩; exact rfl
          · replace h := XSplit.f h e
            conv => whnf
            refine ASeq.go tab_ok mixed_ ?_
            conv => whnf
            refine ACalls.inn (c_shape_Elems (W.bindE h) (fun v15 h => ?_)) ⟨rfl, rfl⟩
            conv => whnf
            refine XDraw.q [0, 1, 2, 3, 4, 5, 6, 7, 8, 9, 10, 11, 12, 13, 14] (by decide +kernel) ?_
            conv => whnf
            refine XNeed.mk (XNeed.c h) ?_; replace h := XNeed.x h
            conv => whnf
            refine XSplit.mk (fun e => ?_) (fun e => ?_)
            · replace h := XSplit.t h e
              conv => whnf
              refine ⟨_, Weak.a ?_, ?_, h⟩; (conv => whnf); exact ⟨rfl, rfl, rfl, rfl, rfl⟩; exact rfl
            · replace h := XSplit.f h e
              conv => whnf
              refine ASeq.joinW tab_ok mixed_ (fun v16 => ⟨[(2, .ptr 0 0), (4, .ptr 1 0), (5, .int .i64 (0)), (6, .int .i64 (0)), (7, .ptr 2 0), (8, .ptr 3 0), (11, .ptr 4 0), (12, .int .i64 (v14.snd.snd.snd.fst)), (13, .int .i64 (v14.snd.snd.snd.snd.fst)), (17, .int .i64 (v16))], [(0, .box 47 [.int .i64 (a0), .int .i64 (a1), .int .i64 (a2), .int .i64 (a3), .int .i64 (a4), .int .i64 (a5), .int .i64 (a6), .int .i64 (a7), .int .i64 (a8), .int .i64 (a9), .int .i64 (a10), .int .i64 (a11), .sl (a12) 48 (a13), .sl (a14) 21 (a15), .int .i64 (a16), .int .i64 (a17), .int .i64 (a18), .int .i64 (a19), .int .i64 (a20), .int .i64 (a21), .int .i64 (a22), .int .i64 (a23)]), (1, .box 23 [.int .i64 (0), .int .i64 (0), .int .i64 (0)]), (2, .box 23 [.int .i64 (0), .int .i64 (0), .int .i64 (0)]), (3, .box 121 [.bool (v11.fst), .bool (v11.snd.fst), .bool (v11.snd.snd.fst), .bool (v11.snd.snd.snd.fst), .bool (v11.snd.snd.snd.snd.fst), .bool (v11.snd.snd.snd.snd.snd.fst), .bool (v11.snd.snd.snd.snd.snd.snd.fst), .bool (v11.snd.snd.snd.snd.snd.snd.snd.fst)]), (4, .box 23 [.int .i64 (v14.fst), .int .i64 (v14.snd.fst), .int .i64 (v14.snd.snd.fst)])], 5, [], []⟩) h (fun Q h => ?_) (fun v16 h => ?_)
              · conv => whnf
                refine XSplit.mk (fun e => ?_) (fun e => ?_)
                · replace h := XSplit.t h e
                  conv => whnf
                  refine ⟨_, Weak.a ?_, h⟩; (conv => whnf); exact ⟨rfl, rfl, rfl, rfl, rfl⟩
                · replace h := XSplit.f h e
                  conv => whnf
                  refine ⟨_, Weak.a ?_, h⟩; (conv => whnf); exact ⟨rfl, rfl, rfl, rfl, rfl⟩
              · conv => whnf
                refine ASeq.go tab_ok mixed_ ?_
                conv => whnf
                refine XSplit.mk (fun e => ?_) (fun e => ?_)
                · replace h := XSplit.t h e
                  conv => whnf
                  refine ⟨_, Weak.a ?_, ?_, h⟩; (conv => whnf); exact ⟨rfl, rfl, rfl, rfl, rfl⟩; exact rfl
                · replace h := XSplit.f h e
                  conv => whnf
                  refine XSplit.mk (fun e => ?_) (fun e => ?_)
                  · replace h := XSplit.t h e
                    conv => whnf
                    refine ⟨_, Weak.a ?_, ?_, h⟩; (conv => whnf); exact ⟨rfl, rfl, rfl, rfl, rfl⟩; exact rfl
                  · replace h := XSplit.f h e
                    conv => whnf
                    refine ASeq.joinW tab_ok mixed_ (fun v17 => ⟨[(2, .ptr 0 0), (4, .ptr 1 0), (5, .int .i64 (0)), (6, .int .i64 (0)), (7, .ptr 2 0), (11, .ptr 3 0), (13, .int .i64 (v14.snd.snd.snd.snd.fst)), (140, .bool (v17))], [(0, .box 47 [.int .i64 (a0), .int .i64 (a1), .int .i64 (a2), .int .i64 (a3), .int .i64 (a4), .int .i64 (a5), .int .i64 (a6), .int .i64 (a7), .int .i64 (a8), .int .i64 (a9), .int .i64 (a10), .int .i64 (a11), .sl (a12) 48 (a13), .sl (a14) 21 (a15), .int .i64 (a16), .int .i64 (a17), .int .i64 (a18), .int .i64 (a19), .int .i64 (a20), .int .i64 (a21), .int .i64 (a22), .int .i64 (a23)]), (1, .box 23 [.int .i64 (0), .int .i64 (0), .int .i64 (0)]), (2, .box 23 [.int .i64 (0), .int .i64 (0), .int .i64 (0)]), (3, .box 23 [.int .i64 (v14.fst), .int .i64 (v14.snd.fst), .int .i64 (v14.snd.snd.fst)])], 4, [], []⟩) h (fun Q h => ?_) (fun v17 h => ?_)
                    · conv => whnf
                      refine XSplit.mk (fun e => ?_) (fun e => ?_)
                      · replace h := XSplit.t h e
                        conv => whnf
                        refine ACalls.inn (c_fixq_Valid (W.bindE h) (fun v18 h => ?_)) ⟨rfl, rfl⟩
                        conv => whnf
                        refine XSplit.mk (fun e => ?_) (fun e => ?_)
                        · replace h := XSplit.t h e
                          conv => whnf
                          refine ⟨_, Weak.a ?_, h⟩; (conv => whnf); exact ⟨rfl, rfl, rfl, rfl, rfl⟩
                        · replace h := XSplit.f h e
                          conv => whnf
                          refine XSplit.mk (fun e => ?_) (fun e => ?_)
                          · replace h := XSplit.t h e
                            conv => whnf
                            refine ACalls.inn (c_fixq_Valid (W.bindE h) (fun v19 h => ?_)) ⟨rfl, rfl⟩
                            conv => whnf
                            refine ⟨_, Weak.a ?_, h⟩; (conv => whnf); exact ⟨rfl, rfl, rfl, rfl, rfl⟩
                          · replace h := XSplit.f h e
                            conv => whnf
                            refine ⟨_, Weak.a ?_, h⟩; (conv => whnf); exact ⟨rfl, rfl, rfl, rfl, rfl⟩
                      · replace h := XSplit.f h e
                        conv => whnf
                        refine XSplit.mk (fun e => ?_) (fun e => ?_)
                        · replace h := XSplit.t h e
                          conv => whnf
                          refine ACalls.inn (c_fixq_Valid (W.bindE h) (fun v20 h => ?_)) ⟨rfl, rfl⟩
                          conv => whnf
                          refine ⟨_, Weak.a ?_, h⟩; (conv => whnf); exact ⟨rfl, rfl, rfl, rfl, rfl⟩
                        · replace h := XSplit.f h e
                          conv => whnf
                          refine ⟨_, Weak.a ?_, h⟩; (conv => whnf); exact ⟨rfl, rfl, rfl, rfl, rfl⟩
                    · conv => whnf
                      refine XSplit.mk (fun e => ?_) (fun e => ?_)
                      · replace h := XSplit.t h e
                        conv => whnf
                        refine ⟨_, Weak.a ?_, ?_, h⟩; (conv => whnf); exact ⟨rfl, rfl, rfl, rfl, rfl⟩; exact rfl
                      · replace h := XSplit.f h e
                        conv => whnf
                        refine ACalls.inn (c_model_byte8 (W.bindE h) (fun v21 h => ?_)) ⟨rfl, rfl⟩
                        conv => whnf
                        refine XSplit.mk (fun e => ?_) (fun e => ?_)
                        · replace h := XSplit.t h e
                          conv => whnf
                          refine ⟨_, Weak.a ?_, ?_, h⟩; (conv => whnf); exact ⟨rfl, rfl, rfl, rfl, rfl⟩; exact rfl
                        · replace h := XSplit.f h e
                          conv => whnf
                          refine ⟨_, Weak.a ?_, ?_, h⟩; (conv => whnf); exact ⟨rfl, rfl, rfl, rfl, rfl⟩; exact rfl
theorem c_model_whole {a0 : Int} {a1 : Int} {a2 : Int} {a3 : Int} {a4 : Int} {a5 : Bool} {a6 : Rws} {a7 : Int} {Q : Int × Int × Int × Int × Bool × Rws → Prop} {R : AV → List AB → Prop} (h : (g_model_whole a0 a1 a2 a3 a4 a5 a6 a7).run Q) (k : ∀ r, Q r → R (.tup [.own 0, .int .i64 (r.fst), .agg [.int .i64 (r.snd.fst), .int .i64 (r.snd.snd.fst), .int .i64 (r.snd.snd.snd.fst)]]) ([.arr true 23 (r.snd.snd.snd.snd.fst) (r.snd.snd.snd.snd.snd)])) : ACalls Try.prog tab 28 [.agg [.int .i64 (a0), .int .i64 (a1), .int .i64 (a2), .int .i64 (a3), .int .i64 (a4), .sl (a5) 47 (a6), .int .i64 (a7)]] [] R := by
  refine ACalls.out (fun r => .tup [.own 0, .int .i64 (r.fst), .agg [.int .i64 (r.snd.fst), .int .i64 (r.snd.snd.fst), .int .i64 (r.snd.snd.snd.fst)]]) (fun r => [.arr true 23 (r.snd.snd.snd.snd.fst) (r.snd.snd.snd.snd.snd)]) (Q := Q) (ACalls.introX (mv := mv) tab_ok mixed_ (fn := Try.f28) (by kernel_rfl) rfl (by kernel_rfl) (by kernel_rfl) (leB rfl) ?_) (fun v => by first | exact ⟨rfl, leB rfl⟩ | (cases v <;> exact ⟨rfl, leB rfl⟩)) k
  conv => whnf
  refine ACalls.inn (c_shape_Elems (W.bindE h) (fun v7 h => ?_)) ⟨rfl, rfl⟩
  conv => whnf
  refine ASeq.go tab_ok mixed_ ?_
  conv => whnf
  refine XSplit.mk (fun e => ?_) (fun e => ?_)
  · replace h := XSplit.t h e
    conv => whnf
    refine ⟨_, Weak.a ?_, ?_, h⟩; (conv => whnf); exact ⟨rfl, rfl, rfl, rfl, rfl⟩; exact rfl
  · replace h := XSplit.f h e
    conv => whnf
    refine ACalls.inn (c_model_byte8 (W.bindE h) (fun v8 h => ?_)) ⟨rfl, rfl⟩
    conv => whnf
    refine XSplit.mk (fun e => ?_) (fun e => ?_)
    · replace h := XSplit.t h e
      conv => whnf
      refine ⟨_, Weak.a ?_, ?_, h⟩; (conv => whnf); exact ⟨rfl, rfl, rfl, rfl, rfl⟩; exact rfl
    · replace h := XSplit.f h e
      conv => whnf
      refine XSplit.mk (fun e => ?_) (fun e => ?_)
      · replace h := XSplit.t h e
        conv => whnf
        refine ⟨_, Weak.a ?_, ?_, h⟩; (conv => whnf); exact ⟨rfl, rfl, rfl, rfl, rfl⟩; exact rfl
      · replace h := XSplit.f h e
        conv => whnf
        refine XSplit.mk (fun e => ?_) (fun e => ?_)
        · replace h := XSplit.t h e
          conv => whnf
          refine ⟨_, Weak.a ?_, ?_, h⟩; (conv => whnf); exact ⟨rfl, rfl, rfl, rfl, rfl⟩; exact rfl
        · replace h := XSplit.f h e
          conv => whnf
          refine ASeq.go tab_ok mixed_ ?_
          conv => whnf
          refine ALoop.ofW tab_ok mixed_ (fun v9 => ⟨[(2, .nils), (3, .int .i64 (0)), (4, .ptr 0 0), (7, .own 1), (8, .int .i64 (v9.fst)), (64, .sl (a5) 47 (a6)), (65, .int .i64 ((↑(List.length a6) : Int))), (66, .int .i64 (v9.snd.fst))], [(0, .box 31 [.int .i64 (0), .int .i64 (0), .int .i64 (0)]), (1, .arr true 23 (false) (v9.snd.snd))], 2, [], []⟩) (sx (fun v10 => (.ret, ⟨[(2, .nils), (3, .int .i64 (0)), (4, .ptr 0 0)], [(0, .box 31 [.int .i64 (v10.fst), .int .i64 (v10.snd), .int .i64 (0)])], 1, [], []⟩)) (fun v11 => (.exit 1, ⟨[(2, .nils), (3, .int .i64 (0)), (4, .ptr 0 0), (7, .own 1), (8, .int .i64 (v11.fst))], [(0, .box 31 [.int .i64 (0), .int .i64 (0), .int .i64 (0)]), (1, .arr true 23 (false) (v11.snd))], 2, [], []⟩))) (W.bindE h) (Weak.a ?_) (fun v9 J_ Q h => ?_) (fun v h => ?_)
          · conv => whnf
            exact ⟨rfl, rfl, rfl, rfl, rfl⟩
          · conv => whnf
            refine ASeq.go tab_ok mixed_ ?_
            conv => whnf
            refine XSplit.mk (fun e => ?_) (fun e => ?_)
            · replace h := XSplit.t h e
              conv => whnf
              refine ASeq.go tab_ok mixed_ ?_
              conv => whnf
              refine XNeed.mk (XNeed.c h) ?_; replace h := XNeed.x h
              conv => whnf
              refine ACalls.inn (c_model_op (W.bindE h) (fun v12 h => ?_)) ⟨rfl, rfl⟩
              conv => whnf
              refine ASeq.joinW tab_ok mixed_ (fun v13 => ⟨[(2, .nils), (3, .int .i64 (0)), (4, .ptr 0 0), (7, .own 1), (8, .int .i64 (IntKind.i64.wrap (v9.fst + v12.snd.snd.snd.fst))), (9, .int .i64 (v9.snd.fst)), (10, .ptr 2 0), (11, .ptr 3 0), (12, .int .i64 (v12.snd.snd.snd.fst)), (13, .int .i64 (v13)), (64, .sl (a5) 47 (a6)), (65, .int .i64 ((↑(List.length a6) : Int))), (66, .int .i64 (v9.snd.fst)), (67, .bool (decide (v9.snd.fst < (↑(List.length a6) : Int)))), (68, .int .i64 (v9.snd.fst)), (69, .rel 47 (a6) (v9.snd.fst.toNat) 0), (70, .agg [.int .i64 (ri a6 v9.snd.fst.toNat 0), .int .i64 (ri a6 v9.snd.fst.toNat 1), .int .i64 (ri a6 v9.snd.fst.toNat 2), .int .i64 (ri a6 v9.snd.fst.toNat 3), .int .i64 (ri a6 v9.snd.fst.toNat 4), .int .i64 (ri a6 v9.snd.fst.toNat 5), .int .i64 (ri a6 v9.snd.fst.toNat 6), .int .i64 (ri a6 v9.snd.fst.toNat 7), .int .i64 (ri a6 v9.snd.fst.toNat 8), .int .i64 (ri a6 v9.snd.fst.toNat 9), .int .i64 (ri a6 v9.snd.fst.toNat 10), .int .i64 (ri a6 v9.snd.fst.toNat 11), .sl (rn a6 v9.snd.fst.toNat 12) 48 (rr a6 v9.snd.fst.toNat 12), .sl (rn a6 v9.snd.fst.toNat 13) 21 (rr a6 v9.snd.fst.toNat 13), .int .i64 (ri a6 v9.snd.fst.toNat 14), .int .i64 (ri a6 v9.snd.fst.toNat 15), .int .i64 (ri a6 v9.snd.fst.toNat 16), .int .i64 (ri a6 v9.snd.fst.toNat 17), .int .i64 (ri a6 v9.snd.fst.toNat 18), .int .i64 (ri a6 v9.snd.fst.toNat 19), .int .i64 (ri a6 v9.snd.fst.toNat 20), .int .i64 (ri a6 v9.snd.fst.toNat 21)]), (71, .tup [.agg [.int .i64 (v12.fst), .int .i64 (v12.snd.fst), .int .i64 (v12.snd.snd.fst)], .int .i64 (v12.snd.snd.snd.fst), .int .i64 (v12.snd.snd.snd.snd)]), (72, .agg [.int .i64 (ri a6 v9.snd.fst.toNat 0), .int .i64 (ri a6 v9.snd.fst.toNat 1), .int .i64 (ri a6 v9.snd.fst.toNat 2), .int .i64 (ri a6 v9.snd.fst.toNat 3), .int .i64 (ri a6 v9.snd.fst.toNat 4), .int .i64 (ri a6 v9.snd.fst.toNat 5), .int .i64 (ri a6 v9.snd.fst.toNat 6), .int .i64 (ri a6 v9.snd.fst.toNat 7), .int .i64 (ri a6 v9.snd.fst.toNat 8), .int .i64 (ri a6 v9.snd.fst.toNat 9), .int .i64 (ri a6 v9.snd.fst.toNat 10), .int .i64 (ri a6 v9.snd.fst.toNat 11), .sl (rn a6 v9.snd.fst.toNat 12) 48 (rr a6 v9.snd.fst.toNat 12), .sl (rn a6 v9.snd.fst.toNat 13) 21 (rr a6 v9.snd.fst.toNat 13), .int .i64 (ri a6 v9.snd.fst.toNat 14), .int .i64 (ri a6 v9.snd.fst.toNat 15), .int .i64 (ri a6 v9.snd.fst.toNat 16), .int .i64 (ri a6 v9.snd.fst.toNat 17), .int .i64 (ri a6 v9.snd.fst.toNat 18), .int .i64 (ri a6 v9.snd.fst.toNat 19), .int .i64 (ri a6 v9.snd.fst.toNat 20), .int .i64 (ri a6 v9.snd.fst.toNat 21)]), (73, .own 1), (74, .tup [.agg [.int .i64 (v12.fst), .int .i64 (v12.snd.fst), .int .i64 (v12.snd.snd.fst)], .int .i64 (v12.snd.snd.snd.fst), .int .i64 (v12.snd.snd.snd.snd)]), (75, .agg [.int .i64 (v12.fst), .int .i64 (v12.snd.fst), .int .i64 (v12.snd.snd.fst)]), (76, .int .i64 (v12.snd.snd.snd.fst)), (77, .int .i64 (v12.snd.snd.snd.snd)), (78, .int .i64 (v9.fst)), (79, .int .i64 (v12.snd.snd.snd.fst)), (80, .int .i64 (IntKind.i64.wrap (v9.fst + v12.snd.snd.snd.fst))), (81, .int .i64 (v12.snd.snd.snd.snd)), (82, .bool (v12.snd.snd.snd.snd == 0)), (83, .bool (v12.snd.snd.snd.snd == 0)), (86, .bool (v12.snd.snd.snd.snd == 0 && decide (131072 < IntKind.i64.wrap (v9.fst + v12.snd.snd.snd.fst))))], [(0, .box 31 [.int .i64 (0), .int .i64 (0), .int .i64 (0)]), (1, .arr true 23 (false) (v9.snd.snd)), (2, .box 47 [.int .i64 (ri a6 v9.snd.fst.toNat 0), .int .i64 (ri a6 v9.snd.fst.toNat 1), .int .i64 (ri a6 v9.snd.fst.toNat 2), .int .i64 (ri a6 v9.snd.fst.toNat 3), .int .i64 (ri a6 v9.snd.fst.toNat 4), .int .i64 (ri a6 v9.snd.fst.toNat 5), .int .i64 (ri a6 v9.snd.fst.toNat 6), .int .i64 (ri a6 v9.snd.fst.toNat 7), .int .i64 (ri a6 v9.snd.fst.toNat 8), .int .i64 (ri a6 v9.snd.fst.toNat 9), .int .i64 (ri a6 v9.snd.fst.toNat 10), .int .i64 (ri a6 v9.snd.fst.toNat 11), .sl (rn a6 v9.snd.fst.toNat 12) 48 (rr a6 v9.snd.fst.toNat 12), .sl (rn a6 v9.snd.fst.toNat 13) 21 (rr a6 v9.snd.fst.toNat 13), .int .i64 (ri a6 v9.snd.fst.toNat 14), .int .i64 (ri a6 v9.snd.fst.toNat 15), .int .i64 (ri a6 v9.snd.fst.toNat 16), .int .i64 (ri a6 v9.snd.fst.toNat 17), .int .i64 (ri a6 v9.snd.fst.toNat 18), .int .i64 (ri a6 v9.snd.fst.toNat 19), .int .i64 (ri a6 v9.snd.fst.toNat 20), .int .i64 (ri a6 v9.snd.fst.toNat 21)]), (3, .box 23 [.int .i64 (v12.fst), .int .i64 (v12.snd.fst), .int .i64 (v12.snd.snd.fst)])], 4, [], []⟩) h (fun Q h => ?_) (fun v13 h => ?_)
              · conv => whnf
                refine XSplit.mk (fun e => ?_) (fun e => ?_)
                · replace h := XSplit.t h e
                  conv => whnf
                  refine ⟨_, Weak.a ?_, h⟩; (conv => whnf); exact ⟨rfl, rfl, rfl, rfl, rfl⟩
                · replace h := XSplit.f h e
                  conv => whnf
                  refine ⟨_, Weak.a ?_, h⟩; (conv => whnf); exact ⟨rfl, rfl, rfl, rfl, rfl⟩
              · conv => whnf
                refine ASeq.go tab_ok mixed_ ?_
                conv => whnf
                refine XSplit.mk (fun e => ?_) (fun e => ?_)
                · replace h := XSplit.t h e
                  conv => whnf
                  refine ⟨_, ?_, Weak.a ?_, h⟩; exact rfl; (conv => whnf); exact ⟨rfl, rfl, rfl, rfl, rfl⟩
                · replace h := XSplit.f h e
                  conv => whnf
                  refine XNeed.mk (XNeed.c h) ?_; replace h := XNeed.x h
                  conv => whnf
                  refine ⟨_, Weak.a ?_, h⟩; (conv => whnf); exact ⟨rfl, rfl, rfl, rfl, rfl⟩
            · replace h := XSplit.f h e
              conv => whnf
              refine ⟨_, ?_, Weak.a ?_, h⟩; exact rfl; (conv => whnf); exact ⟨rfl, rfl, rfl, rfl, rfl⟩
          · rcases v with v10 | v11
            · conv => whnf
              refine ⟨_, Weak.a ?_, ?_, h⟩; (conv => whnf); exact ⟨rfl, rfl, rfl, rfl, rfl⟩; exact rfl
            · conv => whnf
              refine ⟨_, Weak.a ?_, ?_, h⟩; (conv => whnf); exact ⟨rfl, rfl, rfl, rfl, rfl⟩; exact rfl
theorem c_model_Check {a0 : Int} {a1 : Int} {a2 : Int} {a3 : Int} {a4 : Int} {a5 : Bool} {a6 : Rws} {a7 : Int} {Q : Int × Int × Int → Prop} {R : AV → List AB → Prop} (h : (g_model_Check a0 a1 a2 a3 a4 a5 a6 a7).run Q) (k : ∀ r, Q r → R (.agg [.int .i64 (r.fst), .int .i64 (r.snd.fst), .int .i64 (r.snd.snd)]) ([])) : ACalls Try.prog tab 16 [.agg [.int .i64 (a0), .int .i64 (a1), .int .i64 (a2), .int .i64 (a3), .int .i64 (a4), .sl (a5) 47 (a6), .int .i64 (a7)]] [] R := by
  refine ACalls.out (fun r => .agg [.int .i64 (r.fst), .int .i64 (r.snd.fst), .int .i64 (r.snd.snd)]) (fun r => []) (Q := Q) (ACalls.introX (mv := mv) tab_ok mixed_ (fn := Try.f16) (by kernel_rfl) rfl (by kernel_rfl) (by kernel_rfl) (leB rfl) ?_) (fun v => by first | exact ⟨rfl, leB rfl⟩ | (cases v <;> exact ⟨rfl, leB rfl⟩)) k
  conv => whnf
  refine ACalls.inn (c_model_whole (W.bindE h) (fun v1 h => ?_)) ⟨rfl, rfl⟩
  conv => whnf
  refine ⟨_, Weak.a ?_, ?_, h⟩; (conv => whnf); exact ⟨rfl, rfl, rfl, rfl, rfl⟩; exact rfl
theorem c_trim_reads_q {a0 : Rws} {a1 : Nat} {Q : (Unit) ⊕ (Unit) → Prop} {R : AV → List AB → Prop} (h : (g_trim_reads_q a0 a1).run Q) (k : ∀ r, Q r → R (sx (fun r => .psl 0 2) (fun r => .psl 0 1) r) (sx (fun r => [.box 69 [.rel 47 (a0) (a1) 1, .rel 47 (a0) (a1) 2]]) (fun r => [.box 69 [.rel 47 (a0) (a1) 1]]) r)) : ACalls Try.prog tab 21 [.rel 47 (a0) (a1) 0] [] R := by
  refine ACalls.out (fun r => sx (fun r => .psl 0 2) (fun r => .psl 0 1) r) (fun r => sx (fun r => [.box 69 [.rel 47 (a0) (a1) 1, .rel 47 (a0) (a1) 2]]) (fun r => [.box 69 [.rel 47 (a0) (a1) 1]]) r) (Q := Q) (ACalls.introX (mv := mv) tab_ok mixed_ (fn := Try.f21) (by kernel_rfl) rfl (by kernel_rfl) (by kernel_rfl) (leB rfl) ?_) (fun v => by first | exact ⟨rfl, leB rfl⟩ | (cases v <;> exact ⟨rfl, leB rfl⟩)) k
  conv => whnf
  refine ASeq.go tab_ok mixed_ ?_
  conv => whnf
  refine XSplit.mk (fun e => ?_) (fun e => ?_)
  · replace h := XSplit.t h e
    conv => whnf
    refine XDraw.d [0, 1, 2, 3, 4, 5, 6, 7] [[], [], [], [], [], [], [], []] (by decide +kernel) ?_
    conv => whnf
    refine ⟨_, Weak.a ?_, ?_, h⟩; (conv => whnf); exact ⟨rfl, rfl, rfl, rfl, rfl⟩; exact rfl
  · replace h := XSplit.f h e
    conv => whnf
    refine ⟨_, Weak.a ?_, ?_, h⟩; (conv => whnf); exact ⟨rfl, rfl, rfl, rfl, rfl⟩; exact rfl
theorem c_trim_Live {a0 : Int} {a1 : Int} {a2 : Int} {a3 : Int} {a4 : Int} {a5 : Bool} {a6 : Rws} {a7 : Int} {Q : Int × Int × Int × Bool × Rws → Prop} {R : AV → List AB → Prop} (h : (g_trim_Live a0 a1 a2 a3 a4 a5 a6 a7).run Q) (k : ∀ r, Q r → R (.tup [.own 0, .agg [.int .i64 (r.fst), .int .i64 (r.snd.fst), .int .i64 (r.snd.snd.fst)]]) ([.arr true 4 (r.snd.snd.snd.fst) (r.snd.snd.snd.snd)])) : ACalls Try.prog tab 9 [.agg [.int .i64 (a0), .int .i64 (a1), .int .i64 (a2), .int .i64 (a3), .int .i64 (a4), .sl (a5) 47 (a6), .int .i64 (a7)]] [] R := by
  refine ACalls.out (fun r => .tup [.own 0, .agg [.int .i64 (r.fst), .int .i64 (r.snd.fst), .int .i64 (r.snd.snd.fst)]]) (fun r => [.arr true 4 (r.snd.snd.snd.fst) (r.snd.snd.snd.snd)]) (Q := Q) (ACalls.introX (mv := mv) tab_ok mixed_ (fn := Try.f9) (by kernel_rfl) rfl (by kernel_rfl) (by kernel_rfl) (leB rfl) ?_) (fun v => by first | exact ⟨rfl, leB rfl⟩ | (cases v <;> exact ⟨rfl, leB rfl⟩)) k
  conv => whnf
  refine ASeq.go tab_ok mixed_ ?_
  conv => whnf
  refine ACalls.inn (c_model_Check (W.bindE h) (fun v5 h => ?_)) ⟨rfl, rfl⟩
  conv => whnf
  refine XSplit.mk (fun e => ?_) (fun e => ?_)
  · replace h := XSplit.t h e
    conv => whnf
    refine XDraw.d [0, 1, 2] [[], [], [1]] (by decide +kernel) ?_
    conv => whnf
    refine ⟨_, Weak.a ?_, ?_, h⟩; (conv => whnf); exact ⟨rfl, rfl, rfl, rfl, rfl⟩; exact rfl
  · replace h := XSplit.f h e
    conv => whnf
    refine XNeed.mk (XNeed.c h) ?_; replace h := XNeed.x h
    conv => whnf
    refine ASeq.go tab_ok mixed_ ?_
    conv => whnf
    refine ALoop.ofW tab_ok mixed_ (fun v6 => ⟨[(1, .ptr 0 0), (2, .nils), (3, .ptr 1 0), (5, .own 2), (6, .vw 3 (0) (v6.fst))], [(0, .box 26 [.int .i64 (a0), .int .i64 (a1), .int .i64 (a2), .int .i64 (a3), .int .i64 (a4), .sl (a5) 47 (a6), .int .i64 (a7)]), (1, .box 31 [.int .i64 (0), .int .i64 (0), .int .i64 (0)]), (2, .arr true 4 (false) (v6.snd.fst)), (3, .arr true 3 (false) (v6.snd.snd))], 4, [], []⟩) (fun v7 => (.exit 0, ⟨[(2, .nils), (3, .ptr 0 0), (5, .own 1)], [(0, .box 31 [.int .i64 (0), .int .i64 (0), .int .i64 (0)]), (1, .arr true 4 (false) (v7))], 2, [], []⟩)) (W.bindE h) (Weak.a ?_) (fun v6 J_ Q h => ?_) (fun v7 h => ?_)
    · conv => whnf
      exact ⟨rfl, rfl, rfl, rfl, rfl⟩
    · conv => whnf
      refine ASeq.go tab_ok mixed_ ?_
      conv => whnf
      refine XSplit.mk (fun e => ?_) (fun e => ?_)
      · replace h := XSplit.t h e
        conv => whnf
        refine XNeed.mk (XNeed.c h) ?_; replace h := XNeed.x h
        conv => whnf
        refine XNeed.mk (XNeed.c h) ?_; replace h := XNeed.x h
        conv => whnf
        refine ASeq.go tab_ok mixed_ ?_
        conv => whnf
        refine XNeed.mk (XNeed.c h) ?_; replace h := XNeed.x h
        conv => whnf
        refine XSplit.mk (fun e => ?_) (fun e => ?_)
        · replace h := XSplit.t h e
          conv => whnf
          refine ⟨_, Weak.a ?_, h⟩; (conv => whnf); exact ⟨rfl, rfl, rfl, rfl, rfl⟩
        · replace h := XSplit.f h e
          conv => whnf
          refine XNeed.mk (XNeed.c h) ?_; replace h := XNeed.x h
          conv => whnf
          refine XSplit.mk (fun e => ?_) (fun e => ?_)
          · replace h := XSplit.t h e
            conv => whnf
            refine XNeed.mk (XNeed.c h) ?_; replace h := XNeed.x h
            conv => whnf
            refine ACalls.inn (c_trim_reads_q (W.bindE h) (fun v h => ?_)) ⟨rfl, rfl⟩
            rcases v with v8 | v9
            · conv => whnf
              refine ALoop.unroll tab_ok mixed_ (kn := fun st => ALoop Try.prog tab _ _ _ _ st _) (fun _ h => h) ?_
              conv => whnf
              refine ASeq.go tab_ok mixed_ ?_
              conv => whnf
              refine XSplit.tt rfl ?_
              conv => whnf
              refine ASeq.go tab_ok mixed_ ?_
              conv => whnf
              refine XNeed.mk (of_decide_eq_true rfl) ?_
              conv => whnf
              refine XNeed.mk (XNeed.c h) ?_; replace h := XNeed.x h
              conv => whnf
              refine ALoop.unroll tab_ok mixed_ (kn := fun st => ALoop Try.prog tab _ _ _ _ st _) (fun _ h => h) ?_
              conv => whnf
              refine ASeq.go tab_ok mixed_ ?_
              conv => whnf
              refine XSplit.tt rfl ?_
              conv => whnf
              refine ASeq.go tab_ok mixed_ ?_
              conv => whnf
              refine XNeed.mk (of_decide_eq_true rfl) ?_
              conv => whnf
              refine XNeed.mk (XNeed.c h) ?_; replace h := XNeed.x h
              conv => whnf
              refine ALoop.unroll tab_ok mixed_ (kn := fun st => ALoop Try.prog tab _ _ _ _ st _) (fun _ h => h) ?_
              conv => whnf
              refine ASeq.go tab_ok mixed_ ?_
              conv => whnf
              refine XSplit.ff rfl ?_
              conv => whnf
              refine ⟨_, Weak.a ?_, h⟩; (conv => whnf); exact ⟨rfl, rfl, rfl, rfl, rfl⟩
            · conv => whnf
              refine ALoop.unroll tab_ok mixed_ (kn := fun st => ALoop Try.prog tab _ _ _ _ st _) (fun _ h => h) ?_
              conv => whnf
              refine ASeq.go tab_ok mixed_ ?_
              conv => whnf
              refine XSplit.tt rfl ?_
              conv => whnf
              refine ASeq.go tab_ok mixed_ ?_
              conv => whnf
              refine XNeed.mk (of_decide_eq_true rfl) ?_
              conv => whnf
              refine XNeed.mk (XNeed.c h) ?_; replace h := XNeed.x h
              conv => whnf
              refine ALoop.unroll tab_ok mixed_ (kn := fun st => ALoop Try.prog tab _ _ _ _ st _) (fun _ h => h) ?_
              conv => whnf
              refine ASeq.go tab_ok mixed_ ?_
              conv => whnf
              refine XSplit.ff rfl ?_
              conv => whnf
              refine ⟨_, Weak.a ?_, h⟩; (conv => whnf); exact ⟨rfl, rfl, rfl, rfl, rfl⟩
          · replace h := XSplit.f h e
            conv => whnf
            refine ⟨_, Weak.a ?_, h⟩; (conv => whnf); exact ⟨rfl, rfl, rfl, rfl, rfl⟩
      · replace h := XSplit.f h e
        conv => whnf
        refine ⟨_, ?_, Weak.a ?_, h⟩; exact rfl; (conv => whnf); exact ⟨rfl, rfl, rfl, rfl, rfl⟩
    · conv => whnf
      refine ⟨_, Weak.a ?_, ?_, h⟩; (conv => whnf); exact ⟨rfl, rfl, rfl, rfl, rfl⟩; exact rfl
theorem c_trim_reads_p {a0 : Int} {a1 : Int} {a2 : Int} {a3 : Int} {a4 : Int} {a5 : Int} {a6 : Int} {a7 : Int} {a8 : Int} {a9 : Int} {a10 : Int} {a11 : Int} {a12 : Bool} {a13 : Rws} {a14 : Bool} {a15 : Rws} {a16 : Int} {a17 : Int} {a18 : Int} {a19 : Int} {a20 : Int} {a21 : Int} {a22 : Int} {a23 : Int} {Q : (Unit) ⊕ (Unit) → Prop} {R : AV → List AB → Prop} (h : (g_trim_reads_p a0 a1 a2 a3 a4 a5 a6 a7 a8 a9 a10 a11 a12 a13 a14 a15 a16 a17 a18 a19 a20 a21 a22 a23).run Q) (k : ∀ r, Q r → R (sx (fun r => .psl 1 2) (fun r => .psl 1 1) r) (sx (fun r => [.box 47 [.int .i64 (a0), .int .i64 (a1), .int .i64 (a2), .int .i64 (a3), .int .i64 (a4), .int .i64 (a5), .int .i64 (a6), .int .i64 (a7), .int .i64 (a8), .int .i64 (a9), .int .i64 (a10), .int .i64 (a11), .sl (a12) 48 (a13), .sl (a14) 21 (a15), .int .i64 (a16), .int .i64 (a17), .int .i64 (a18), .int .i64 (a19), .int .i64 (a20), .int .i64 (a21), .int .i64 (a22), .int .i64 (a23)], .box 69 [.ptr 0 1, .ptr 0 2]]) (fun r => [.box 47 [.int .i64 (a0), .int .i64 (a1), .int .i64 (a2), .int .i64 (a3), .int .i64 (a4), .int .i64 (a5), .int .i64 (a6), .int .i64 (a7), .int .i64 (a8), .int .i64 (a9), .int .i64 (a10), .int .i64 (a11), .sl (a12) 48 (a13), .sl (a14) 21 (a15), .int .i64 (a16), .int .i64 (a17), .int .i64 (a18), .int .i64 (a19), .int .i64 (a20), .int .i64 (a21), .int .i64 (a22), .int .i64 (a23)], .box 69 [.ptr 0 1]]) r)) : ACalls Try.prog tab 21 [.ptr 0 0] [.box 47 [.int .i64 (a0), .int .i64 (a1), .int .i64 (a2), .int .i64 (a3), .int .i64 (a4), .int .i64 (a5), .int .i64 (a6), .int .i64 (a7), .int .i64 (a8), .int .i64 (a9), .int .i64 (a10), .int .i64 (a11), .sl (a12) 48 (a13), .sl (a14) 21 (a15), .int .i64 (a16), .int .i64 (a17), .int .i64 (a18), .int .i64 (a19), .int .i64 (a20), .int .i64 (a21), .int .i64 (a22), .int .i64 (a23)]] R := by
  refine ACalls.out (fun r => sx (fun r => .psl 1 2) (fun r => .psl 1 1) r) (fun r => sx (fun r => [.box 47 [.int .i64 (a0), .int .i64 (a1), .int .i64 (a2), .int .i64 (a3), .int .i64 (a4), .int .i64 (a5), .int .i64 (a6), .int .i64 (a7), .int .i64 (a8), .int .i64 (a9), .int .i64 (a10), .int .i64 (a11), .sl (a12) 48 (a13), .sl (a14) 21 (a15), .int .i64 (a16), .int .i64 (a17), .int .i64 (a18), .int .i64 (a19), .int .i64 (a20), .int .i64 (a21), .int .i64 (a22), .int .i64 (a23)], .box 69 [.ptr 0 1, .ptr 0 2]]) (fun r => [.box 47 [.int .i64 (a0), .int .i64 (a1), .int .i64 (a2), .int .i64 (a3), .int .i64 (a4), .int .i64 (a5), .int .i64 (a6), .int .i64 (a7), .int .i64 (a8), .int .i64 (a9), .int .i64 (a10), .int .i64 (a11), .sl (a12) 48 (a13), .sl (a14) 21 (a15), .int .i64 (a16), .int .i64 (a17), .int .i64 (a18), .int .i64 (a19), .int .i64 (a20), .int .i64 (a21), .int .i64 (a22), .int .i64 (a23)], .box 69 [.ptr 0 1]]) r) (Q := Q) (ACalls.introX (mv := mv) tab_ok mixed_ (fn := Try.f21) (by kernel_rfl) rfl (by kernel_rfl) (by kernel_rfl) (leB rfl) ?_) (fun v => by first | exact ⟨rfl, leB rfl⟩ | (cases v <;> exact ⟨rfl, leB rfl⟩)) k
  conv => whnf
  refine ASeq.go tab_ok mixed_ ?_
  conv => whnf
  refine XSplit.mk (fun e => ?_) (fun e => ?_)
  · replace h := XSplit.t h e
    conv => whnf
    refine XDraw.d [0, 1, 2, 3, 4, 5, 6, 7] [[], [], [], [], [], [], [], []] (by decide +kernel) ?_
    conv => whnf
    refine ⟨_, Weak.a ?_, ?_, h⟩; (conv => whnf); exact ⟨rfl, rfl, rfl, rfl, rfl⟩; exact rfl
  · replace h := XSplit.f h e
    conv => whnf
    refine ⟨_, Weak.a ?_, ?_, h⟩; (conv => whnf); exact ⟨rfl, rfl, rfl, rfl, rfl⟩; exact rfl
theorem c_slices_Clone___int16_int16_ {a0 : Bool} {a1 : Rws} {Q : Bool × Rws → Prop} {R : AV → List AB → Prop} (h : (g_slices_Clone___int16_int16_ a0 a1).run Q) (k : ∀ r, Q r → R (.own 0) ([.arr true 48 (r.fst) (r.snd)])) : ACalls Try.prog tab 22 [.sl (a0) 48 (a1)] [] R := by
  refine ACalls.out (fun r => .own 0) (fun r => [.arr true 48 (r.fst) (r.snd)]) (Q := Q) (ACalls.introX (mv := mv) tab_ok mixed_ (fn := Try.f22) (by kernel_rfl) rfl (by kernel_rfl) (by kernel_rfl) (leB rfl) ?_) (fun v => by first | exact ⟨rfl, leB rfl⟩ | (cases v <;> exact ⟨rfl, leB rfl⟩)) k
  conv => whnf
  refine ASeq.go tab_ok mixed_ ?_
  conv => whnf
  refine XSplit.mk (fun e => ?_) (fun e => ?_)
  · replace h := XSplit.t h e
    conv => whnf
    refine ⟨_, Weak.a ?_, ?_, h⟩; (conv => whnf); exact ⟨rfl, rfl, rfl, rfl, rfl⟩; exact rfl
  · replace h := XSplit.f h e
    conv => whnf
    refine XNeed.mk (XNeed.c h) ?_; replace h := XNeed.x h
    conv => whnf
    refine ⟨_, Weak.a ?_, ?_, h⟩; (conv => whnf); exact ⟨rfl, rfl, rfl, rfl, rfl⟩; exact rfl
theorem c_slices_Clone___int32_int32_ {a0 : Bool} {a1 : Rws} {Q : Bool × Rws → Prop} {R : AV → List AB → Prop} (h : (g_slices_Clone___int32_int32_ a0 a1).run Q) (k : ∀ r, Q r → R (.own 0) ([.arr true 21 (r.fst) (r.snd)])) : ACalls Try.prog tab 23 [.sl (a0) 21 (a1)] [] R := by
  refine ACalls.out (fun r => .own 0) (fun r => [.arr true 21 (r.fst) (r.snd)]) (Q := Q) (ACalls.introX (mv := mv) tab_ok mixed_ (fn := Try.f23) (by kernel_rfl) rfl (by kernel_rfl) (by kernel_rfl) (leB rfl) ?_) (fun v => by first | exact ⟨rfl, leB rfl⟩ | (cases v <;> exact ⟨rfl, leB rfl⟩)) k
  conv => whnf
  refine ASeq.go tab_ok mixed_ ?_
  conv => whnf
  refine XSplit.mk (fun e => ?_) (fun e => ?_)
  · replace h := XSplit.t h e
    conv => whnf
    refine ⟨_, Weak.a ?_, ?_, h⟩; (conv => whnf); exact ⟨rfl, rfl, rfl, rfl, rfl⟩; exact rfl
  · replace h := XSplit.f h e
    conv => whnf
    refine XNeed.mk (XNeed.c h) ?_; replace h := XNeed.x h
    conv => whnf
    refine ⟨_, Weak.a ?_, ?_, h⟩; (conv => whnf); exact ⟨rfl, rfl, rfl, rfl, rfl⟩; exact rfl
theorem c_trim_Trim {a0 : Int} {a1 : Int} {a2 : Int} {a3 : Int} {a4 : Int} {a5 : Bool} {a6 : Rws} {a7 : Int} {Q : Int × Int × Int × Int × Int × Int × Int × Int × Int × Bool × Rws → Prop} {R : AV → List AB → Prop} (h : (g_trim_Trim a0 a1 a2 a3 a4 a5 a6 a7).run Q) (k : ∀ r, Q r → R (.tup [.agg [.int .i64 (r.fst), .int .i64 (r.snd.fst), .int .i64 (r.snd.snd.fst), .int .i64 (r.snd.snd.snd.fst), .int .i64 (r.snd.snd.snd.snd.fst), .own 0, .int .i64 (r.snd.snd.snd.snd.snd.fst)], .agg [.int .i64 (r.snd.snd.snd.snd.snd.snd.fst), .int .i64 (r.snd.snd.snd.snd.snd.snd.snd.fst), .int .i64 (r.snd.snd.snd.snd.snd.snd.snd.snd.fst)]]) ([.arr true 47 (r.snd.snd.snd.snd.snd.snd.snd.snd.snd.fst) (r.snd.snd.snd.snd.snd.snd.snd.snd.snd.snd)])) : ACalls Try.prog tab 10 [.agg [.int .i64 (a0), .int .i64 (a1), .int .i64 (a2), .int .i64 (a3), .int .i64 (a4), .sl (a5) 47 (a6), .int .i64 (a7)]] [] R := by
  refine ACalls.out (fun r => .tup [.agg [.int .i64 (r.fst), .int .i64 (r.snd.fst), .int .i64 (r.snd.snd.fst), .int .i64 (r.snd.snd.snd.fst), .int .i64 (r.snd.snd.snd.snd.fst), .own 0, .int .i64 (r.snd.snd.snd.snd.snd.fst)], .agg [.int .i64 (r.snd.snd.snd.snd.snd.snd.fst), .int .i64 (r.snd.snd.snd.snd.snd.snd.snd.fst), .int .i64 (r.snd.snd.snd.snd.snd.snd.snd.snd.fst)]]) (fun r => [.arr true 47 (r.snd.snd.snd.snd.snd.snd.snd.snd.snd.fst) (r.snd.snd.snd.snd.snd.snd.snd.snd.snd.snd)]) (Q := Q) (ACalls.introX (mv := mv) tab_ok mixed_ (fn := Try.f10) (by kernel_rfl) rfl (by kernel_rfl) (by kernel_rfl) (leB rfl) ?_) (fun v => by first | exact ⟨rfl, leB rfl⟩ | (cases v <;> exact ⟨rfl, leB rfl⟩)) k
  conv => whnf
  refine ACalls.inn (c_trim_Live (W.bindE h) (fun v9 h => ?_)) ⟨rfl, rfl⟩
  conv => whnf
  refine ASeq.go tab_ok mixed_ ?_
  conv => whnf
  refine XSplit.mk (fun e => ?_) (fun e => ?_)
  · replace h := XSplit.t h e
    conv => whnf
    refine XDraw.d [0, 1, 2, 3] [[], [], [1], [2]] (by decide +kernel) ?_
    conv => whnf
    refine ⟨_, Weak.a ?_, ?_, h⟩; (conv => whnf); exact ⟨rfl, rfl, rfl, rfl, rfl⟩; exact rfl
  · replace h := XSplit.f h e
    conv => whnf
    refine XNeed.mk (XNeed.c h) ?_; replace h := XNeed.x h
    conv => whnf
    refine ASeq.go tab_ok mixed_ ?_
    conv => whnf
    refine ALoop.ofW tab_ok mixed_ (fun v10 => ⟨[(1, .ptr 0 0), (2, .ptr 1 0), (3, .ptr 2 0), (4, .own 3), (6, .ptr 4 0), (7, .own 5), (33, .sl (a5) 47 (a6)), (34, .int .i64 ((↑(List.length a6) : Int))), (35, .int .i64 (v10.fst))], [(0, .box 26 [.int .i64 (a0), .int .i64 (a1), .int .i64 (a2), .int .i64 (a3), .int .i64 (a4), .sl (a5) 47 (a6), .int .i64 (a7)]), (1, .box 26 [.int .i64 (0), .int .i64 (0), .int .i64 (0), .int .i64 (0), .int .i64 (0), .nils, .int .i64 (0)]), (2, .box 31 [.int .i64 (0), .int .i64 (0), .int .i64 (0)]), (3, .arr true 4 (v9.snd.snd.snd.fst) (v9.snd.snd.snd.snd)), (4, .box 26 [.int .i64 (a0), .int .i64 (a1), .int .i64 (a2), .int .i64 (a3), .int .i64 (a4), .own 6, .int .i64 (0)]), (5, .arr true 3 (false) (v10.snd.fst)), (6, .arr true 47 (v10.snd.snd.fst) (v10.snd.snd.snd))], 7, [], []⟩) (fun v11 => (.exit 0, ⟨[(1, .ptr 0 0), (2, .ptr 1 0), (3, .ptr 2 0), (6, .ptr 3 0), (7, .own 4)], [(0, .box 26 [.int .i64 (a0), .int .i64 (a1), .int .i64 (a2), .int .i64 (a3), .int .i64 (a4), .sl (a5) 47 (a6), .int .i64 (a7)]), (1, .box 26 [.int .i64 (0), .int .i64 (0), .int .i64 (0), .int .i64 (0), .int .i64 (0), .nils, .int .i64 (0)]), (2, .box 31 [.int .i64 (0), .int .i64 (0), .int .i64 (0)]), (3, .box 26 [.int .i64 (a0), .int .i64 (a1), .int .i64 (a2), .int .i64 (a3), .int .i64 (a4), .own 5, .int .i64 (0)]), (4, .arr true 3 (false) (v11.fst)), (5, .arr true 47 (v11.snd.fst) (v11.snd.snd))], 6, [], []⟩)) (W.bindE h) (Weak.a ?_) (fun v10 J_ Q h => ?_) (fun v11 h => ?_)
    · conv => whnf
      exact ⟨rfl, rfl, rfl, rfl, rfl⟩
    · conv => whnf
      refine ASeq.go tab_ok mixed_ ?_
      conv => whnf
      refine XSplit.mk (fun e => ?_) (fun e => ?_)
      · replace h := XSplit.t h e
        conv => whnf
        refine ASeq.joinW tab_ok mixed_ (fun v12 => ⟨[(1, .ptr 0 0), (2, .ptr 1 0), (3, .ptr 2 0), (4, .own 3), (6, .ptr 4 0), (7, .own 5), (8, .int .i64 (v10.fst)), (9, .ptr 6 0), (33, .sl (a5) 47 (a6)), (34, .int .i64 ((↑(List.length a6) : Int))), (35, .int .i64 (v10.fst)), (36, .bool (decide (v10.fst < (↑(List.length a6) : Int)))), (37, .int .i64 (v10.fst)), (38, .rel 47 (a6) (v10.fst.toNat) 0), (39, .agg [.int .i64 (ri a6 v10.fst.toNat 0), .int .i64 (ri a6 v10.fst.toNat 1), .int .i64 (ri a6 v10.fst.toNat 2), .int .i64 (ri a6 v10.fst.toNat 3), .int .i64 (ri a6 v10.fst.toNat 4), .int .i64 (ri a6 v10.fst.toNat 5), .int .i64 (ri a6 v10.fst.toNat 6), .int .i64 (ri a6 v10.fst.toNat 7), .int .i64 (ri a6 v10.fst.toNat 8), .int .i64 (ri a6 v10.fst.toNat 9), .int .i64 (ri a6 v10.fst.toNat 10), .int .i64 (ri a6 v10.fst.toNat 11), .sl (rn a6 v10.fst.toNat 12) 48 (rr a6 v10.fst.toNat 12), .sl (rn a6 v10.fst.toNat 13) 21 (rr a6 v10.fst.toNat 13), .int .i64 (ri a6 v10.fst.toNat 14), .int .i64 (ri a6 v10.fst.toNat 15), .int .i64 (ri a6 v10.fst.toNat 16), .int .i64 (ri a6 v10.fst.toNat 17), .int .i64 (ri a6 v10.fst.toNat 18), .int .i64 (ri a6 v10.fst.toNat 19), .int .i64 (ri a6 v10.fst.toNat 20), .int .i64 (ri a6 v10.fst.toNat 21)]), (40, .own 3), (41, .int .i64 (v10.fst)), (42, .int .i64 (IntKind.i64.wrap (v10.fst + 1))), (43, .elt 3 ((IntKind.i64.wrap (v10.fst + 1)).toNat) 0), (44, .bool (rb v9.snd.snd.snd.snd (IntKind.i64.wrap (v10.fst + 1)).toNat 0)), (45, .bool (!rb v9.snd.snd.snd.snd (IntKind.i64.wrap (v10.fst + 1)).toNat 0))], [(0, .box 26 [.int .i64 (a0), .int .i64 (a1), .int .i64 (a2), .int .i64 (a3), .int .i64 (a4), .sl (a5) 47 (a6), .int .i64 (a7)]), (1, .box 26 [.int .i64 (0), .int .i64 (0), .int .i64 (0), .int .i64 (0), .int .i64 (0), .nils, .int .i64 (0)]), (2, .box 31 [.int .i64 (0), .int .i64 (0), .int .i64 (0)]), (3, .arr true 4 (v9.snd.snd.snd.fst) (v9.snd.snd.snd.snd)), (4, .box 26 [.int .i64 (a0), .int .i64 (a1), .int .i64 (a2), .int .i64 (a3), .int .i64 (a4), .own 7, .int .i64 (0)]), (5, .arr true 3 (false) (v12.fst)), (6, .box 47 [.int .i64 (ri a6 v10.fst.toNat 0), .int .i64 (v12.snd.fst), .int .i64 (v12.snd.snd.fst), .int .i64 (ri a6 v10.fst.toNat 3), .int .i64 (ri a6 v10.fst.toNat 4), .int .i64 (ri a6 v10.fst.toNat 5), .int .i64 (ri a6 v10.fst.toNat 6), .int .i64 (ri a6 v10.fst.toNat 7), .int .i64 (ri a6 v10.fst.toNat 8), .int .i64 (ri a6 v10.fst.toNat 9), .int .i64 (ri a6 v10.fst.toNat 10), .int .i64 (ri a6 v10.fst.toNat 11), .sl (v12.snd.snd.snd.fst) 48 (v12.snd.snd.snd.snd.fst), .sl (v12.snd.snd.snd.snd.snd.fst) 21 (v12.snd.snd.snd.snd.snd.snd.fst), .int .i64 (ri a6 v10.fst.toNat 14), .int .i64 (ri a6 v10.fst.toNat 15), .int .i64 (ri a6 v10.fst.toNat 16), .int .i64 (ri a6 v10.fst.toNat 17), .int .i64 (ri a6 v10.fst.toNat 18), .int .i64 (ri a6 v10.fst.toNat 19), .int .i64 (ri a6 v10.fst.toNat 20), .int .i64 (ri a6 v10.fst.toNat 21)]), (7, .arr true 47 (v12.snd.snd.snd.snd.snd.snd.snd.fst) (v12.snd.snd.snd.snd.snd.snd.snd.snd))], 8, [], []⟩) h (fun Q h => ?_) (fun v12 h => ?_)
        · conv => whnf
          refine XNeed.mk (XNeed.c h) ?_; replace h := XNeed.x h
          conv => whnf
          refine ASeq.go tab_ok mixed_ ?_
          conv => whnf
          refine XNeed.mk (XNeed.c h) ?_; replace h := XNeed.x h
          conv => whnf
          refine XSplit.mk (fun e => ?_) (fun e => ?_)
          · replace h := XSplit.t h e
            conv => whnf
            refine ⟨_, Weak.a ?_, h⟩; (conv => whnf); exact ⟨rfl, rfl, rfl, rfl, rfl⟩
          · replace h := XSplit.f h e
            conv => whnf
            refine ASeq.joinW tab_ok mixed_ (fun v13 => ⟨[(1, .ptr 0 0), (2, .ptr 1 0), (3, .ptr 2 0), (4, .own 3), (6, .ptr 4 0), (7, .own 5), (8, .int .i64 (v10.fst)), (9, .ptr 6 0), (33, .sl (a5) 47 (a6)), (34, .int .i64 ((↑(List.length a6) : Int))), (35, .int .i64 (v10.fst)), (36, .bool (decide (v10.fst < (↑(List.length a6) : Int)))), (37, .int .i64 (v10.fst)), (38, .rel 47 (a6) (v10.fst.toNat) 0), (39, .agg [.int .i64 (ri a6 v10.fst.toNat 0), .int .i64 (ri a6 v10.fst.toNat 1), .int .i64 (ri a6 v10.fst.toNat 2), .int .i64 (ri a6 v10.fst.toNat 3), .int .i64 (ri a6 v10.fst.toNat 4), .int .i64 (ri a6 v10.fst.toNat 5), .int .i64 (ri a6 v10.fst.toNat 6), .int .i64 (ri a6 v10.fst.toNat 7), .int .i64 (ri a6 v10.fst.toNat 8), .int .i64 (ri a6 v10.fst.toNat 9), .int .i64 (ri a6 v10.fst.toNat 10), .int .i64 (ri a6 v10.fst.toNat 11), .sl (rn a6 v10.fst.toNat 12) 48 (rr a6 v10.fst.toNat 12), .sl (rn a6 v10.fst.toNat 13) 21 (rr a6 v10.fst.toNat 13), .int .i64 (ri a6 v10.fst.toNat 14), .int .i64 (ri a6 v10.fst.toNat 15), .int .i64 (ri a6 v10.fst.toNat 16), .int .i64 (ri a6 v10.fst.toNat 17), .int .i64 (ri a6 v10.fst.toNat 18), .int .i64 (ri a6 v10.fst.toNat 19), .int .i64 (ri a6 v10.fst.toNat 20), .int .i64 (ri a6 v10.fst.toNat 21)]), (40, .own 3), (41, .int .i64 (v10.fst)), (42, .int .i64 (IntKind.i64.wrap (v10.fst + 1))), (43, .elt 3 ((IntKind.i64.wrap (v10.fst + 1)).toNat) 0), (44, .bool (rb v9.snd.snd.snd.snd (IntKind.i64.wrap (v10.fst + 1)).toNat 0)), (45, .bool (!rb v9.snd.snd.snd.snd (IntKind.i64.wrap (v10.fst + 1)).toNat 0)), (47, .int .i64 (v13.fst)), (48, .int .i64 (v13.snd.fst)), (49, .bool (false)), (53, .own 5), (56, .int .i64 (v13.snd.snd.fst)), (57, .elt 5 (v13.snd.snd.snd.fst) 0), (58, .int .i64 (v13.snd.snd.snd.snd.fst)), (60, .int .i64 (v13.snd.snd.snd.snd.snd.fst))], [(0, .box 26 [.int .i64 (a0), .int .i64 (a1), .int .i64 (a2), .int .i64 (a3), .int .i64 (a4), .sl (a5) 47 (a6), .int .i64 (a7)]), (1, .box 26 [.int .i64 (0), .int .i64 (0), .int .i64 (0), .int .i64 (0), .int .i64 (0), .nils, .int .i64 (0)]), (2, .box 31 [.int .i64 (0), .int .i64 (0), .int .i64 (0)]), (3, .arr true 4 (v9.snd.snd.snd.fst) (v9.snd.snd.snd.snd)), (4, .box 26 [.int .i64 (a0), .int .i64 (a1), .int .i64 (a2), .int .i64 (a3), .int .i64 (a4), .own 7, .int .i64 (0)]), (5, .arr true 3 (false) (v10.snd.fst)), (6, .box 47 [.int .i64 (ri a6 v10.fst.toNat 0), .int .i64 (ri v10.snd.fst (ri a6 v10.fst.toNat 1).toNat 0), .int .i64 (v13.snd.snd.snd.snd.snd.snd), .int .i64 (ri a6 v10.fst.toNat 3), .int .i64 (ri a6 v10.fst.toNat 4), .int .i64 (ri a6 v10.fst.toNat 5), .int .i64 (ri a6 v10.fst.toNat 6), .int .i64 (ri a6 v10.fst.toNat 7), .int .i64 (ri a6 v10.fst.toNat 8), .int .i64 (ri a6 v10.fst.toNat 9), .int .i64 (ri a6 v10.fst.toNat 10), .int .i64 (ri a6 v10.fst.toNat 11), .sl (rn a6 v10.fst.toNat 12) 48 (rr a6 v10.fst.toNat 12), .sl (rn a6 v10.fst.toNat 13) 21 (rr a6 v10.fst.toNat 13), .int .i64 (ri a6 v10.fst.toNat 14), .int .i64 (ri a6 v10.fst.toNat 15), .int .i64 (ri a6 v10.fst.toNat 16), .int .i64 (ri a6 v10.fst.toNat 17), .int .i64 (ri a6 v10.fst.toNat 18), .int .i64 (ri a6 v10.fst.toNat 19), .int .i64 (ri a6 v10.fst.toNat 20), .int .i64 (ri a6 v10.fst.toNat 21)]), (7, .arr true 47 (v10.snd.snd.fst) (v10.snd.snd.snd))], 8, [], []⟩) h (fun Q h => ?_) (fun v13 h => ?_)
            · conv => whnf
              refine ACalls.inn (c_trim_reads_p (W.bindE h) (fun v h => ?_)) ⟨rfl, rfl⟩
              rcases v with v14 | v15
              · conv => whnf
                refine ALoop.unroll tab_ok mixed_ (kn := fun st => ALoop Try.prog tab _ _ _ _ st _) (fun _ h => h) ?_
                conv => whnf
                refine ASeq.go tab_ok mixed_ ?_
                conv => whnf
                refine XSplit.tt rfl ?_
                conv => whnf
                refine ASeq.go tab_ok mixed_ ?_
                conv => whnf
                refine XNeed.mk (of_decide_eq_true rfl) ?_
                conv => whnf
                refine XNeed.mk (XNeed.c h) ?_; replace h := XNeed.x h
                conv => whnf
                refine ALoop.unroll tab_ok mixed_ (kn := fun st => ALoop Try.prog tab _ _ _ _ st _) (fun _ h => h) ?_
                conv => whnf
                refine ASeq.go tab_ok mixed_ ?_
                conv => whnf
                refine XSplit.tt rfl ?_
                conv => whnf
                refine ASeq.go tab_ok mixed_ ?_
                conv => whnf
                refine XNeed.mk (of_decide_eq_true rfl) ?_
                conv => whnf
                refine XNeed.mk (XNeed.c h) ?_; replace h := XNeed.x h
                conv => whnf
                refine ALoop.unroll tab_ok mixed_ (kn := fun st => ALoop Try.prog tab _ _ _ _ st _) (fun _ h => h) ?_
                conv => whnf
                refine ASeq.go tab_ok mixed_ ?_
                conv => whnf
                refine XSplit.ff rfl ?_
                conv => whnf
                refine ⟨_, Weak.a ?_, h⟩; (conv => whnf); exact ⟨rfl, rfl, rfl, rfl, rfl⟩
              · conv => whnf
                refine ALoop.unroll tab_ok mixed_ (kn := fun st => ALoop Try.prog tab _ _ _ _ st _) (fun _ h => h) ?_
                conv => whnf
                refine ASeq.go tab_ok mixed_ ?_
                conv => whnf
                refine XSplit.tt rfl ?_
                conv => whnf
                refine ASeq.go tab_ok mixed_ ?_
                conv => whnf
                refine XNeed.mk (of_decide_eq_true rfl) ?_
                conv => whnf
                refine XNeed.mk (XNeed.c h) ?_; replace h := XNeed.x h
                conv => whnf
                refine ALoop.unroll tab_ok mixed_ (kn := fun st => ALoop Try.prog tab _ _ _ _ st _) (fun _ h => h) ?_
                conv => whnf
                refine ASeq.go tab_ok mixed_ ?_
                conv => whnf
                refine XSplit.ff rfl ?_
                conv => whnf
                refine ⟨_, Weak.a ?_, h⟩; (conv => whnf); exact ⟨rfl, rfl, rfl, rfl, rfl⟩
            · conv => whnf
              refine XDraw.d [0, 1, 3, 4, 2, 5, 6, 7, 8, 9] [[], [], [], [], [], [], [], [6], [], [6]] (by decide +kernel) ?_
              conv => whnf
              refine ACalls.inn (c_slices_Clone___int16_int16_ (W.bindE h) (fun v16 h => ?_)) ⟨rfl, rfl⟩
              conv => whnf
              refine ACalls.inn (c_slices_Clone___int32_int32_ (W.bindE h) (fun v17 h => ?_)) ⟨rfl, rfl⟩
              conv => whnf
              refine XNeed.mk (XNeed.c h) ?_; replace h := XNeed.x h
              conv => whnf
              refine XNeed.mk (XNeed.c h) ?_; replace h := XNeed.x h
              conv => whnf
              refine ⟨_, Weak.a ?_, h⟩; (conv => whnf); exact ⟨rfl, rfl, rfl, rfl, rfl⟩
        · conv => whnf
          refine ⟨_, Weak.a ?_, h⟩; (conv => whnf); exact ⟨rfl, rfl, rfl, rfl, rfl⟩
      · replace h := XSplit.f h e
        conv => whnf
        refine ⟨_, ?_, Weak.a ?_, h⟩; exact rfl; (conv => whnf); exact ⟨rfl, rfl, rfl, rfl, rfl⟩
    · conv => whnf
      refine XNeed.mk (XNeed.c h) ?_; replace h := XNeed.x h
      conv => whnf
      refine ⟨_, Weak.a ?_, ?_, h⟩; (conv => whnf); exact ⟨rfl, rfl, rfl, rfl, rfl⟩; exact rfl
theorem c_ref24_Same {a0 : Bool} {a1 : Rws} {a2 : Bool} {a3 : Rws} {Q : Bool → Prop} {R : AV → List AB → Prop} (h : (g_ref24_Same a0 a1 a2 a3).run Q) (k : ∀ r, Q r → R (.bool (r)) ([])) : ACalls Try.prog tab 14 [.sl (a0) 4 (a1), .sl (a2) 4 (a3)] [] R := by
  refine ACalls.out (fun r => .bool (r)) (fun r => []) (Q := Q) (ACalls.introX (mv := mv) tab_ok mixed_ (fn := Try.f14) (by kernel_rfl) rfl (by kernel_rfl) (by kernel_rfl) (leB rfl) ?_) (fun v => by first | exact ⟨rfl, leB rfl⟩ | (cases v <;> exact ⟨rfl, leB rfl⟩)) k
  conv => whnf
  refine ASeq.go tab_ok mixed_ ?_
  conv => whnf
  refine XSplit.mk (fun e => ?_) (fun e => ?_)
  · replace h := XSplit.t h e
    conv => whnf
    refine ⟨_, Weak.a ?_, ?_, h⟩; (conv => whnf); exact ⟨rfl, rfl, rfl, rfl, rfl⟩; exact rfl
  · replace h := XSplit.f h e
    conv => whnf
    refine ASeq.go tab_ok mixed_ ?_
    conv => whnf
    refine ALoop.ofW tab_ok mixed_ (fun v3 => ⟨[(0, .sl (a0) 4 (a1)), (1, .sl (a2) 4 (a3)), (4, .kb false), (12, .int .i64 ((↑(List.length a1) : Int))), (13, .int .i64 (v3))], [], 0, [], []⟩) (sx (fun v4 => (.ret, ⟨[(4, .kb false)], [], 0, [], []⟩)) (fun v5 => (.exit 0, ⟨[(4, .kb false)], [], 0, [], []⟩))) (W.bindE h) (Weak.a ?_) (fun v3 J_ Q h => ?_) (fun v h => ?_)
    · conv => whnf
      exact ⟨rfl, rfl, rfl, rfl, rfl⟩
    · conv => whnf
      refine ASeq.go tab_ok mixed_ ?_
      conv => whnf
      refine XSplit.mk (fun e => ?_) (fun e => ?_)
      · replace h := XSplit.t h e
        conv => whnf
        refine ASeq.go tab_ok mixed_ ?_
        conv => whnf
        refine XDraw.q [0, 1, 2, 3, 4, 5, 6, 7, 8] (by decide +kernel) ?_
        conv => whnf
        refine XNeed.mk (XNeed.c h) ?_; replace h := XNeed.x h
        conv => whnf
        refine XNeed.mk (XNeed.c h) ?_; replace h := XNeed.x h
        conv => whnf
        refine XSplit.mk (fun e => ?_) (fun e => ?_)
        · replace h := XSplit.t h e
          conv => whnf
          refine ⟨_, ?_, Weak.a ?_, h⟩; exact rfl; (conv => whnf); exact ⟨rfl, rfl, rfl, rfl, rfl⟩
        · replace h := XSplit.f h e
          conv => whnf
          refine ⟨_, Weak.a ?_, h⟩; (conv => whnf); exact ⟨rfl, rfl, rfl, rfl, rfl⟩
      · replace h := XSplit.f h e
        conv => whnf
        refine ⟨_, ?_, Weak.a ?_, h⟩; exact rfl; (conv => whnf); exact ⟨rfl, rfl, rfl, rfl, rfl⟩
    · rcases v with v4 | v5
      · conv => whnf
        refine ⟨_, Weak.a ?_, ?_, h⟩; (conv => whnf); exact ⟨rfl, rfl, rfl, rfl, rfl⟩; exact rfl
      · conv => whnf
        refine ⟨_, Weak.a ?_, ?_, h⟩; (conv => whnf); exact ⟨rfl, rfl, rfl, rfl, rfl⟩; exact rfl
theorem c_law24_fixed {Q : Bool → Prop} {R : AV → List AB → Prop} (h : (g_law24_fixed).run Q) (k : ∀ r, Q r → R (.bool (r)) ([])) : ACalls Try.prog tab 13 [] [] R := by
  refine ACalls.out (fun r => .bool (r)) (fun r => []) (Q := Q) (ACalls.introX (mv := mv) tab_ok mixed_ (fn := Try.f13) (by kernel_rfl) rfl (by kernel_rfl) (by kernel_rfl) (leB rfl) ?_) (fun v => by first | exact ⟨rfl, leB rfl⟩ | (cases v <;> exact ⟨rfl, leB rfl⟩)) k
  conv => whnf
  refine ACalls.inn (c_law24_three (W.bindE h) (fun v5 h => ?_)) ⟨rfl, rfl⟩
  conv => whnf
  refine ACalls.inn (c_trim_Live (W.bindE h) (fun v6 h => ?_)) ⟨rfl, rfl⟩
  conv => whnf
  refine ACalls.inn (c_law24_three (W.bindE h) (fun v7 h => ?_)) ⟨rfl, rfl⟩
  conv => whnf
  refine ACalls.inn (c_trim_Trim (W.bindE h) (fun v8 h => ?_)) ⟨rfl, rfl⟩
  conv => whnf
  refine ACalls.inn (c_ref24_Same (W.bindE h) (fun v9 h => ?_)) ⟨rfl, rfl⟩
  conv => whnf
  refine XNeed.mk (XNeed.c h) ?_; replace h := XNeed.x h
  conv => whnf
  refine XNeed.mk (XNeed.c h) ?_; replace h := XNeed.x h
  conv => whnf
  refine ⟨_, Weak.a ?_, ?_, h⟩; (conv => whnf); exact ⟨rfl, rfl, rfl, rfl, rfl⟩; exact rfl
theorem c_model_Shapes {a0 : Int} {a1 : Int} {a2 : Int} {a3 : Int} {a4 : Int} {a5 : Bool} {a6 : Rws} {a7 : Int} {Q : Int × Int × Int × Bool × Rws → Prop} {R : AV → List AB → Prop} (h : (g_model_Shapes a0 a1 a2 a3 a4 a5 a6 a7).run Q) (k : ∀ r, Q r → R (.tup [.own 0, .agg [.int .i64 (r.fst), .int .i64 (r.snd.fst), .int .i64 (r.snd.snd.fst)]]) ([.arr true 23 (r.snd.snd.snd.fst) (r.snd.snd.snd.snd)])) : ACalls Try.prog tab 38 [.agg [.int .i64 (a0), .int .i64 (a1), .int .i64 (a2), .int .i64 (a3), .int .i64 (a4), .sl (a5) 47 (a6), .int .i64 (a7)]] [] R := by
  refine ACalls.out (fun r => .tup [.own 0, .agg [.int .i64 (r.fst), .int .i64 (r.snd.fst), .int .i64 (r.snd.snd.fst)]]) (fun r => [.arr true 23 (r.snd.snd.snd.fst) (r.snd.snd.snd.snd)]) (Q := Q) (ACalls.introX (mv := mv) tab_ok mixed_ (fn := Try.f38) (by kernel_rfl) rfl (by kernel_rfl) (by kernel_rfl) (leB rfl) ?_) (fun v => by first | exact ⟨rfl, leB rfl⟩ | (cases v <;> exact ⟨rfl, leB rfl⟩)) k
  conv => whnf
  refine ACalls.inn (c_model_whole (W.bindE h) (fun v1 h => ?_)) ⟨rfl, rfl⟩
  conv => whnf
  refine XDraw.d [0, 1, 2, 3] [[], [], [], [1]] (by decide +kernel) ?_
  conv => whnf
  refine ⟨_, Weak.a ?_, ?_, h⟩; (conv => whnf); exact ⟨rfl, rfl, rfl, rfl, rfl⟩; exact rfl
theorem c_plain_Tensors_1_p {a0 : Int} {a1 : Int} {a2 : Int} {a3 : Int} {a4 : Int} {a5 : Int} {a6 : Bool} {a7 : Rws} {a8 : Int} {Q : Bool → Prop} {R : AV → List AB → Prop} (h : (g_plain_Tensors_1_p a0 a1 a2 a3 a4 a5 a6 a7 a8).run Q) (k : ∀ r, Q r → R (.bool (r)) ([.box 26 [.int .i64 (a1), .int .i64 (a2), .int .i64 (a3), .int .i64 (a4), .int .i64 (a5), .sl (a6) 47 (a7), .int .i64 (a8)]])) : ACalls Try.prog tab 39 [.int .i8 (a0), .ptr 0 0] [.box 26 [.int .i64 (a1), .int .i64 (a2), .int .i64 (a3), .int .i64 (a4), .int .i64 (a5), .sl (a6) 47 (a7), .int .i64 (a8)]] R := by
  refine ACalls.out (fun r => .bool (r)) (fun r => [.box 26 [.int .i64 (a1), .int .i64 (a2), .int .i64 (a3), .int .i64 (a4), .int .i64 (a5), .sl (a6) 47 (a7), .int .i64 (a8)]]) (Q := Q) (ACalls.introX (mv := mv) tab_ok mixed_ (fn := Try.f39) (by kernel_rfl) rfl (by kernel_rfl) (by kernel_rfl) (leB rfl) ?_) (fun v => by first | exact ⟨rfl, leB rfl⟩ | (cases v <;> exact ⟨rfl, leB rfl⟩)) k
  conv => whnf
  refine ⟨_, Weak.a ?_, ?_, h⟩; (conv => whnf); exact ⟨rfl, rfl, rfl, rfl, rfl⟩; exact rfl
theorem c_slices_IndexFunc___int8_int8___plain_Tensors_1 {a0 : Bool} {a1 : Rws} {a2 : Int} {a3 : Int} {a4 : Int} {a5 : Int} {a6 : Int} {a7 : Bool} {a8 : Rws} {a9 : Int} {Q : Int → Prop} {R : AV → List AB → Prop} (h : (g_slices_IndexFunc___int8_int8___plain_Tensors_1 a0 a1 a2 a3 a4 a5 a6 a7 a8 a9).run Q) (k : ∀ r, Q r → R (.int .i64 (r)) ([.box 26 [.int .i64 (a2), .int .i64 (a3), .int .i64 (a4), .int .i64 (a5), .int .i64 (a6), .sl (a7) 47 (a8), .int .i64 (a9)]])) : ACalls Try.prog tab 63 [.sl (a0) 81 (a1), .fn 39 [] [.ptr 0 0]] [.box 26 [.int .i64 (a2), .int .i64 (a3), .int .i64 (a4), .int .i64 (a5), .int .i64 (a6), .sl (a7) 47 (a8), .int .i64 (a9)]] R := by
  refine ACalls.out (fun r => .int .i64 (r)) (fun r => [.box 26 [.int .i64 (a2), .int .i64 (a3), .int .i64 (a4), .int .i64 (a5), .int .i64 (a6), .sl (a7) 47 (a8), .int .i64 (a9)]]) (Q := Q) (ACalls.introX (mv := mv) tab_ok mixed_ (fn := Try.f63) (by kernel_rfl) rfl (by kernel_rfl) (by kernel_rfl) (leB rfl) ?_) (fun v => by first | exact ⟨rfl, leB rfl⟩ | (cases v <;> exact ⟨rfl, leB rfl⟩)) k
  conv => whnf
  refine ASeq.go tab_ok mixed_ ?_
  conv => whnf
  refine ALoop.ofW tab_ok mixed_ (fun v4 => ⟨[(0, .sl (a0) 81 (a1)), (1, .fn 39 [] [.ptr 0 0]), (4, .int .i64 (0)), (7, .int .i64 ((↑(List.length a1) : Int))), (8, .int .i64 (v4))], [(0, .box 26 [.int .i64 (a2), .int .i64 (a3), .int .i64 (a4), .int .i64 (a5), .int .i64 (a6), .sl (a7) 47 (a8), .int .i64 (a9)])], 1, [], []⟩) (sx (fun v5 => (.ret, ⟨[(4, .int .i64 (v5))], [(0, .box 26 [.int .i64 (a2), .int .i64 (a3), .int .i64 (a4), .int .i64 (a5), .int .i64 (a6), .sl (a7) 47 (a8), .int .i64 (a9)])], 1, [], []⟩)) (fun v6 => (.exit 0, ⟨[(4, .int .i64 (0))], [(0, .box 26 [.int .i64 (a2), .int .i64 (a3), .int .i64 (a4), .int .i64 (a5), .int .i64 (a6), .sl (a7) 47 (a8), .int .i64 (a9)])], 1, [], []⟩))) (W.bindE h) (Weak.a ?_) (fun v4 J_ Q h => ?_) (fun v h => ?_)
  · conv => whnf
    exact ⟨rfl, rfl, rfl, rfl, rfl⟩
  · conv => whnf
    refine ASeq.go tab_ok mixed_ ?_
    conv => whnf
    refine XSplit.mk (fun e => ?_) (fun e => ?_)
    · replace h := XSplit.t h e
      conv => whnf
      refine ASeq.go tab_ok mixed_ ?_
      conv => whnf
      refine XNeed.mk (XNeed.c h) ?_; replace h := XNeed.x h
      conv => whnf
      refine ACalls.inn (c_plain_Tensors_1_p (W.bindE h) (fun v7 h => ?_)) ⟨rfl, rfl⟩
      conv => whnf
      refine XSplit.mk (fun e => ?_) (fun e => ?_)
      · replace h := XSplit.t h e
        conv => whnf
        refine ⟨_, ?_, Weak.a ?_, h⟩; exact rfl; (conv => whnf); exact ⟨rfl, rfl, rfl, rfl, rfl⟩
      · replace h := XSplit.f h e
        conv => whnf
        refine ⟨_, Weak.a ?_, h⟩; (conv => whnf); exact ⟨rfl, rfl, rfl, rfl, rfl⟩
    · replace h := XSplit.f h e
      conv => whnf
      refine ⟨_, ?_, Weak.a ?_, h⟩; exact rfl; (conv => whnf); exact ⟨rfl, rfl, rfl, rfl, rfl⟩
  · rcases v with v5 | v6
    · conv => whnf
      refine ⟨_, Weak.a ?_, ?_, h⟩; (conv => whnf); exact ⟨rfl, rfl, rfl, rfl, rfl⟩; exact rfl
    · conv => whnf
      refine ⟨_, Weak.a ?_, ?_, h⟩; (conv => whnf); exact ⟨rfl, rfl, rfl, rfl, rfl⟩; exact rfl
theorem c_slices_ContainsFunc___int8_int8___plain_Tensors_1 {a0 : Bool} {a1 : Rws} {a2 : Int} {a3 : Int} {a4 : Int} {a5 : Int} {a6 : Int} {a7 : Bool} {a8 : Rws} {a9 : Int} {Q : Bool → Prop} {R : AV → List AB → Prop} (h : (g_slices_ContainsFunc___int8_int8___plain_Tensors_1 a0 a1 a2 a3 a4 a5 a6 a7 a8 a9).run Q) (k : ∀ r, Q r → R (.bool (r)) ([.box 26 [.int .i64 (a2), .int .i64 (a3), .int .i64 (a4), .int .i64 (a5), .int .i64 (a6), .sl (a7) 47 (a8), .int .i64 (a9)]])) : ACalls Try.prog tab 40 [.sl (a0) 81 (a1), .fn 39 [] [.ptr 0 0]] [.box 26 [.int .i64 (a2), .int .i64 (a3), .int .i64 (a4), .int .i64 (a5), .int .i64 (a6), .sl (a7) 47 (a8), .int .i64 (a9)]] R := by
  refine ACalls.out (fun r => .bool (r)) (fun r => [.box 26 [.int .i64 (a2), .int .i64 (a3), .int .i64 (a4), .int .i64 (a5), .int .i64 (a6), .sl (a7) 47 (a8), .int .i64 (a9)]]) (Q := Q) (ACalls.introX (mv := mv) tab_ok mixed_ (fn := Try.f40) (by kernel_rfl) rfl (by kernel_rfl) (by kernel_rfl) (leB rfl) ?_) (fun v => by first | exact ⟨rfl, leB rfl⟩ | (cases v <;> exact ⟨rfl, leB rfl⟩)) k
  conv => whnf
  refine ACalls.inn (c_slices_IndexFunc___int8_int8___plain_Tensors_1 (W.bindE h) (fun v1 h => ?_)) ⟨rfl, rfl⟩
  conv => whnf
  refine ⟨_, Weak.a ?_, ?_, h⟩; (conv => whnf); exact ⟨rfl, rfl, rfl, rfl, rfl⟩; exact rfl
theorem c_slices_Clone___int8_int8_ {a0 : Bool} {a1 : Rws} {Q : Bool × Rws → Prop} {R : AV → List AB → Prop} (h : (g_slices_Clone___int8_int8_ a0 a1).run Q) (k : ∀ r, Q r → R (.own 0) ([.arr true 81 (r.fst) (r.snd)])) : ACalls Try.prog tab 41 [.sl (a0) 81 (a1)] [] R := by
  refine ACalls.out (fun r => .own 0) (fun r => [.arr true 81 (r.fst) (r.snd)]) (Q := Q) (ACalls.introX (mv := mv) tab_ok mixed_ (fn := Try.f41) (by kernel_rfl) rfl (by kernel_rfl) (by kernel_rfl) (leB rfl) ?_) (fun v => by first | exact ⟨rfl, leB rfl⟩ | (cases v <;> exact ⟨rfl, leB rfl⟩)) k
  conv => whnf
  refine ASeq.go tab_ok mixed_ ?_
  conv => whnf
  refine XSplit.mk (fun e => ?_) (fun e => ?_)
  · replace h := XSplit.t h e
    conv => whnf
    refine ⟨_, Weak.a ?_, ?_, h⟩; (conv => whnf); exact ⟨rfl, rfl, rfl, rfl, rfl⟩; exact rfl
  · replace h := XSplit.f h e
    conv => whnf
    refine XNeed.mk (XNeed.c h) ?_; replace h := XNeed.x h
    conv => whnf
    refine ⟨_, Weak.a ?_, ?_, h⟩; (conv => whnf); exact ⟨rfl, rfl, rfl, rfl, rfl⟩; exact rfl
theorem c_model_Reduces {a0 : Int} {Q : Bool → Prop} {R : AV → List AB → Prop} (h : (g_model_Reduces a0).run Q) (k : ∀ r, Q r → R (.bool (r)) ([])) : ACalls Try.prog tab 31 [.int .i64 (a0)] [] R := by
  refine ACalls.out (fun r => .bool (r)) (fun r => []) (Q := Q) (ACalls.introX (mv := mv) tab_ok mixed_ (fn := Try.f31) (by kernel_rfl) rfl (by kernel_rfl) (by kernel_rfl) (leB rfl) ?_) (fun v => by first | exact ⟨rfl, leB rfl⟩ | (cases v <;> exact ⟨rfl, leB rfl⟩)) k
  conv => whnf
  refine ASeq.go tab_ok mixed_ ?_
  conv => whnf
  refine ASeq.joinW tab_ok mixed_ (fun v1 => ⟨[(2, .kb false), (4, .bool (v1))], [], 0, [], []⟩) h (fun Q h => ?_) (fun v1 h => ?_)
  · conv => whnf
    refine XSplit.mk (fun e => ?_) (fun e => ?_)
    · replace h := XSplit.t h e
      conv => whnf
      refine ⟨_, Weak.a ?_, h⟩; (conv => whnf); exact ⟨rfl, rfl, rfl, rfl, rfl⟩
    · replace h := XSplit.f h e
      conv => whnf
      refine XSplit.mk (fun e => ?_) (fun e => ?_)
      · replace h := XSplit.t h e
        conv => whnf
        refine ⟨_, Weak.a ?_, h⟩; (conv => whnf); exact ⟨rfl, rfl, rfl, rfl, rfl⟩
      · replace h := XSplit.f h e
        conv => whnf
        refine XSplit.mk (fun e => ?_) (fun e => ?_)
        · replace h := XSplit.t h e
          conv => whnf
          refine ⟨_, Weak.a ?_, h⟩; (conv => whnf); exact ⟨rfl, rfl, rfl, rfl, rfl⟩
        · replace h := XSplit.f h e
          conv => whnf
          refine ⟨_, Weak.a ?_, h⟩; (conv => whnf); exact ⟨rfl, rfl, rfl, rfl, rfl⟩
  · conv => whnf
    refine XSplit.mk (fun e => ?_) (fun e => ?_)
    · replace h := XSplit.t h e
      conv => whnf
      refine ⟨_, Weak.a ?_, ?_, h⟩; (conv => whnf); exact ⟨rfl, rfl, rfl, rfl, rfl⟩; exact rfl
    · replace h := XSplit.f h e
      conv => whnf
      refine ⟨_, Weak.a ?_, ?_, h⟩; (conv => whnf); exact ⟨rfl, rfl, rfl, rfl, rfl⟩; exact rfl
theorem c_terms_find {a0 : Int} {a1 : Int} {a2 : Int} {a3 : Int} {a4 : Int} {a5 : Bool} {a6 : Rws} {a7 : Int} {a8 : Int} {Q : Int × Int × Int × Int × Int × Int × Int × Int × Int × Int × Int × Int × Bool × Rws × Bool × Rws × Int × Int × Int × Int × Int × Int × Int × Int × Int × Int × Int × Int × Int × Int × Int × Int → Prop} {R : AV → List AB → Prop} (h : (g_terms_find a0 a1 a2 a3 a4 a5 a6 a7 a8).run Q) (k : ∀ r, Q r → R (.tup [.agg [.int .i64 (r.fst), .int .i64 (r.snd.fst), .int .i64 (r.snd.snd.fst), .int .i64 (r.snd.snd.snd.fst), .int .i64 (r.snd.snd.snd.snd.fst), .int .i64 (r.snd.snd.snd.snd.snd.fst), .int .i64 (r.snd.snd.snd.snd.snd.snd.fst), .int .i64 (r.snd.snd.snd.snd.snd.snd.snd.fst), .int .i64 (r.snd.snd.snd.snd.snd.snd.snd.snd.fst), .int .i64 (r.snd.snd.snd.snd.snd.snd.snd.snd.snd.fst), .int .i64 (r.snd.snd.snd.snd.snd.snd.snd.snd.snd.snd.fst), .int .i64 (r.snd.snd.snd.snd.snd.snd.snd.snd.snd.snd.snd.fst), .sl (r.snd.snd.snd.snd.snd.snd.snd.snd.snd.snd.snd.snd.fst) 48 (r.snd.snd.snd.snd.snd.snd.snd.snd.snd.snd.snd.snd.snd.fst), .sl (r.snd.snd.snd.snd.snd.snd.snd.snd.snd.snd.snd.snd.snd.snd.fst) 21 (r.snd.snd.snd.snd.snd.snd.snd.snd.snd.snd.snd.snd.snd.snd.snd.fst), .int .i64 (r.snd.snd.snd.snd.snd.snd.snd.snd.snd.snd.snd.snd.snd.snd.snd.snd.fst), .int .i64 (r.snd.snd.snd.snd.snd.snd.snd.snd.snd.snd.snd.snd.snd.snd.snd.snd.snd.fst), .int .i64 (r.snd.snd.snd.snd.snd.snd.snd.snd.snd.snd.snd.snd.snd.snd.snd.snd.snd.snd.fst), .int .i64 (r.snd.snd.snd.snd.snd.snd.snd.snd.snd.snd.snd.snd.snd.snd.snd.snd.snd.snd.snd.fst), .int .i64 (r.snd.snd.snd.snd.snd.snd.snd.snd.snd.snd.snd.snd.snd.snd.snd.snd.snd.snd.snd.snd.fst), .int .i64 (r.snd.snd.snd.snd.snd.snd.snd.snd.snd.snd.snd.snd.snd.snd.snd.snd.snd.snd.snd.snd.snd.fst), .int .i64 (r.snd.snd.snd.snd.snd.snd.snd.snd.snd.snd.snd.snd.snd.snd.snd.snd.snd.snd.snd.snd.snd.snd.fst), .int .i64 (r.snd.snd.snd.snd.snd.snd.snd.snd.snd.snd.snd.snd.snd.snd.snd.snd.snd.snd.snd.snd.snd.snd.snd.fst), .int .i64 (r.snd.snd.snd.snd.snd.snd.snd.snd.snd.snd.snd.snd.snd.snd.snd.snd.snd.snd.snd.snd.snd.snd.snd.snd.fst), .int .i64 (r.snd.snd.snd.snd.snd.snd.snd.snd.snd.snd.snd.snd.snd.snd.snd.snd.snd.snd.snd.snd.snd.snd.snd.snd.snd.fst), .int .i64 (r.snd.snd.snd.snd.snd.snd.snd.snd.snd.snd.snd.snd.snd.snd.snd.snd.snd.snd.snd.snd.snd.snd.snd.snd.snd.snd.fst), .int .i64 (r.snd.snd.snd.snd.snd.snd.snd.snd.snd.snd.snd.snd.snd.snd.snd.snd.snd.snd.snd.snd.snd.snd.snd.snd.snd.snd.snd.fst), .int .i64 (r.snd.snd.snd.snd.snd.snd.snd.snd.snd.snd.snd.snd.snd.snd.snd.snd.snd.snd.snd.snd.snd.snd.snd.snd.snd.snd.snd.snd.fst), .int .i64 (r.snd.snd.snd.snd.snd.snd.snd.snd.snd.snd.snd.snd.snd.snd.snd.snd.snd.snd.snd.snd.snd.snd.snd.snd.snd.snd.snd.snd.snd.fst), .int .i64 (r.snd.snd.snd.snd.snd.snd.snd.snd.snd.snd.snd.snd.snd.snd.snd.snd.snd.snd.snd.snd.snd.snd.snd.snd.snd.snd.snd.snd.snd.snd.fst)], .int .i64 (r.snd.snd.snd.snd.snd.snd.snd.snd.snd.snd.snd.snd.snd.snd.snd.snd.snd.snd.snd.snd.snd.snd.snd.snd.snd.snd.snd.snd.snd.snd.snd)]) ([])) : ACalls Try.prog tab 46 [.agg [.int .i64 (a0), .int .i64 (a1), .int .i64 (a2), .int .i64 (a3), .int .i64 (a4), .sl (a5) 47 (a6), .int .i64 (a7)], .int .i64 (a8)] [] R := by
  refine ACalls.out (fun r => .tup [.agg [.int .i64 (r.fst), .int .i64 (r.snd.fst), .int .i64 (r.snd.snd.fst), .int .i64 (r.snd.snd.snd.fst), .int .i64 (r.snd.snd.snd.snd.fst), .int .i64 (r.snd.snd.snd.snd.snd.fst), .int .i64 (r.snd.snd.snd.snd.snd.snd.fst), .int .i64 (r.snd.snd.snd.snd.snd.snd.snd.fst), .int .i64 (r.snd.snd.snd.snd.snd.snd.snd.snd.fst), .int .i64 (r.snd.snd.snd.snd.snd.snd.snd.snd.snd.fst), .int .i64 (r.snd.snd.snd.snd.snd.snd.snd.snd.snd.snd.fst), .int .i64 (r.snd.snd.snd.snd.snd.snd.snd.snd.snd.snd.snd.fst), .sl (r.snd.snd.snd.snd.snd.snd.snd.snd.snd.snd.snd.snd.fst) 48 (r.snd.snd.snd.snd.snd.snd.snd.snd.snd.snd.snd.snd.snd.fst), .sl (r.snd.snd.snd.snd.snd.snd.snd.snd.snd.snd.snd.snd.snd.snd.fst) 21 (r.snd.snd.snd.snd.snd.snd.snd.snd.snd.snd.snd.snd.snd.snd.snd.fst), .int .i64 (r.snd.snd.snd.snd.snd.snd.snd.snd.snd.snd.snd.snd.snd.snd.snd.snd.fst), .int .i64 (r.snd.snd.snd.snd.snd.snd.snd.snd.snd.snd.snd.snd.snd.snd.snd.snd.snd.fst), .int .i64 (r.snd.snd.snd.snd.snd.snd.snd.snd.snd.snd.snd.snd.snd.snd.snd.snd.snd.snd.fst), .int .i64 (r.snd.snd.snd.snd.snd.snd.snd.snd.snd.snd.snd.snd.snd.snd.snd.snd.snd.snd.snd.fst), .int .i64 (r.snd.snd.snd.snd.snd.snd.snd.snd.snd.snd.snd.snd.snd.snd.snd.snd.snd.snd.snd.snd.fst), .int .i64 (r.snd.snd.snd.snd.snd.snd.snd.snd.snd.snd.snd.snd.snd.snd.snd.snd.snd.snd.snd.snd.snd.fst), .int .i64 (r.snd.snd.snd.snd.snd.snd.snd.snd.snd.snd.snd.snd.snd.snd.snd.snd.snd.snd.snd.snd.snd.snd.fst), .int .i64 (r.snd.snd.snd.snd.snd.snd.snd.snd.snd.snd.snd.snd.snd.snd.snd.snd.snd.snd.snd.snd.snd.snd.snd.fst), .int .i64 (r.snd.snd.snd.snd.snd.snd.snd.snd.snd.snd.snd.snd.snd.snd.snd.snd.snd.snd.snd.snd.snd.snd.snd.snd.fst), .int .i64 (r.snd.snd.snd.snd.snd.snd.snd.snd.snd.snd.snd.snd.snd.snd.snd.snd.snd.snd.snd.snd.snd.snd.snd.snd.snd.fst), .int .i64 (r.snd.snd.snd.snd.snd.snd.snd.snd.snd.snd.snd.snd.snd.snd.snd.snd.snd.snd.snd.snd.snd.snd.snd.snd.snd.snd.fst), .int .i64 (r.snd.snd.snd.snd.snd.snd.snd.snd.snd.snd.snd.snd.snd.snd.snd.snd.snd.snd.snd.snd.snd.snd.snd.snd.snd.snd.snd.fst), .int .i64 (r.snd.snd.snd.snd.snd.snd.snd.snd.snd.snd.snd.snd.snd.snd.snd.snd.snd.snd.snd.snd.snd.snd.snd.snd.snd.snd.snd.snd.fst), .int .i64 (r.snd.snd.snd.snd.snd.snd.snd.snd.snd.snd.snd.snd.snd.snd.snd.snd.snd.snd.snd.snd.snd.snd.snd.snd.snd.snd.snd.snd.snd.fst), .int .i64 (r.snd.snd.snd.snd.snd.snd.snd.snd.snd.snd.snd.snd.snd.snd.snd.snd.snd.snd.snd.snd.snd.snd.snd.snd.snd.snd.snd.snd.snd.snd.fst)], .int .i64 (r.snd.snd.snd.snd.snd.snd.snd.snd.snd.snd.snd.snd.snd.snd.snd.snd.snd.snd.snd.snd.snd.snd.snd.snd.snd.snd.snd.snd.snd.snd.snd)]) (fun r => []) (Q := Q) (ACalls.introX (mv := mv) tab_ok mixed_ (fn := Try.f46) (by kernel_rfl) rfl (by kernel_rfl) (by kernel_rfl) (leB rfl) ?_) (fun v => by first | exact ⟨rfl, leB rfl⟩ | (cases v <;> exact ⟨rfl, leB rfl⟩)) k
  conv => whnf
  refine ACalls.inn (c_model_Shapes (W.bindE h) (fun v3 h => ?_)) ⟨rfl, rfl⟩
  conv => whnf
  refine ASeq.go tab_ok mixed_ ?_
  conv => whnf
  refine XSplit.mk (fun e => ?_) (fun e => ?_)
  · replace h := XSplit.t h e
    conv => whnf
    refine XDraw.d [0, 1, 2, 3, 4] [[], [], [], [1], []] (by decide +kernel) ?_
    conv => whnf
    refine ⟨_, Weak.a ?_, ?_, h⟩; (conv => whnf); exact ⟨rfl, rfl, rfl, rfl, rfl⟩; exact rfl
  · replace h := XSplit.f h e
    conv => whnf
    refine XSplit.mk (fun e => ?_) (fun e => ?_)
    · replace h := XSplit.t h e
      conv => whnf
      refine ⟨_, Weak.a ?_, ?_, h⟩; (conv => whnf); exact ⟨rfl, rfl, rfl, rfl, rfl⟩; exact rfl
    · replace h := XSplit.f h e
      conv => whnf
      refine XNeed.mk (XNeed.c h) ?_; replace h := XNeed.x h
      conv => whnf
      refine ACalls.inn (c_model_Reduces (W.bindE h) (fun v4 h => ?_)) ⟨rfl, rfl⟩
      conv => whnf
      refine XSplit.mk (fun e => ?_) (fun e => ?_)
      · replace h := XSplit.t h e
        conv => whnf
        refine ⟨_, Weak.a ?_, ?_, h⟩; (conv => whnf); exact ⟨rfl, rfl, rfl, rfl, rfl⟩; exact rfl
      · replace h := XSplit.f h e
        conv => whnf
        refine XDraw.d [0, 1, 2, 3, 4, 5, 6, 7, 8, 9, 10, 11, 12] [[], [], [], [], [], [], [], [], [], [], [], [], [4]] (by decide +kernel) ?_
        conv => whnf
        refine XNeed.mk (XNeed.c h) ?_; replace h := XNeed.x h
        conv => whnf
        refine XNeed.mk (XNeed.c h) ?_; replace h := XNeed.x h
        conv => whnf
        refine XNeed.mk (XNeed.c h) ?_; replace h := XNeed.x h
        conv => whnf
        refine ASeq.joinW tab_ok mixed_ (fun v5 => ⟨[(4, .ptr 0 0), (5, .int .i64 (0)), (8, .ptr 1 0)], [(0, .box 107 [.int .i64 (0), .int .i64 (0), .int .i64 (0), .int .i64 (0), .int .i64 (0), .int .i64 (0), .int .i64 (0), .int .i64 (0), .int .i64 (0), .int .i64 (0), .int .i64 (0), .int .i64 (0), .nils, .nils, .int .i64 (0), .int .i64 (0), .int .i64 (0), .int .i64 (0), .int .i64 (0), .int .i64 (0), .int .i64 (0), .int .i64 (0), .int .i64 (0), .int .i64 (0), .int .i64 (0), .int .i64 (0), .int .i64 (0), .int .i64 (0), .int .i64 (0)]), (1, .box 107 [.int .i64 (ri a6 (IntKind.i64.wrap (a8 - 1)).toNat 0), .int .i64 (ri a6 (IntKind.i64.wrap (a8 - 1)).toNat 1), .int .i64 (ri a6 (IntKind.i64.wrap (a8 - 1)).toNat 2), .int .i64 (ri a6 (IntKind.i64.wrap (a8 - 1)).toNat 3), .int .i64 (ri a6 (IntKind.i64.wrap (a8 - 1)).toNat 4), .int .i64 (ri a6 (IntKind.i64.wrap (a8 - 1)).toNat 5), .int .i64 (ri a6 (IntKind.i64.wrap (a8 - 1)).toNat 6), .int .i64 (ri a6 (IntKind.i64.wrap (a8 - 1)).toNat 7), .int .i64 (ri a6 (IntKind.i64.wrap (a8 - 1)).toNat 8), .int .i64 (ri a6 (IntKind.i64.wrap (a8 - 1)).toNat 9), .int .i64 (ri a6 (IntKind.i64.wrap (a8 - 1)).toNat 10), .int .i64 (ri a6 (IntKind.i64.wrap (a8 - 1)).toNat 11), .sl (rn a6 (IntKind.i64.wrap (a8 - 1)).toNat 12) 48 (rr a6 (IntKind.i64.wrap (a8 - 1)).toNat 12), .sl (rn a6 (IntKind.i64.wrap (a8 - 1)).toNat 13) 21 (rr a6 (IntKind.i64.wrap (a8 - 1)).toNat 13), .int .i64 (ri a6 (IntKind.i64.wrap (a8 - 1)).toNat 14), .int .i64 (ri a6 (IntKind.i64.wrap (a8 - 1)).toNat 15), .int .i64 (ri a6 (IntKind.i64.wrap (a8 - 1)).toNat 16), .int .i64 (ri a6 (IntKind.i64.wrap (a8 - 1)).toNat 17), .int .i64 (ri a6 (IntKind.i64.wrap (a8 - 1)).toNat 18), .int .i64 (ri a6 (IntKind.i64.wrap (a8 - 1)).toNat 19), .int .i64 (ri a6 (IntKind.i64.wrap (a8 - 1)).toNat 20), .int .i64 (ri a6 (IntKind.i64.wrap (a8 - 1)).toNat 21), .int .i64 (ri v3.snd.snd.snd.snd (ri a6 (IntKind.i64.wrap (a8 - 1)).toNat 1).toNat 0), .int .i64 (ri v3.snd.snd.snd.snd (ri a6 (IntKind.i64.wrap (a8 - 1)).toNat 1).toNat 1), .int .i64 (ri v3.snd.snd.snd.snd (ri a6 (IntKind.i64.wrap (a8 - 1)).toNat 1).toNat 2), .int .i64 (ri v3.snd.snd.snd.snd a8.toNat 0), .int .i64 (ri v3.snd.snd.snd.snd a8.toNat 1), .int .i64 (ri v3.snd.snd.snd.snd a8.toNat 2), .int .i64 (v5)])], 2, [], []⟩) h (fun Q h => ?_) (fun v5 h => ?_)
        · conv => whnf
          refine XSplit.mk (fun e => ?_) (fun e => ?_)
          · replace h := XSplit.t h e
            conv => whnf
            refine ⟨_, Weak.a ?_, h⟩; (conv => whnf); exact ⟨rfl, rfl, rfl, rfl, rfl⟩
          · replace h := XSplit.f h e
            conv => whnf
            refine XSplit.mk (fun e => ?_) (fun e => ?_)
            · replace h := XSplit.t h e
              conv => whnf
              refine ⟨_, Weak.a ?_, h⟩; (conv => whnf); exact ⟨rfl, rfl, rfl, rfl, rfl⟩
            · replace h := XSplit.f h e
              conv => whnf
              refine ⟨_, Weak.a ?_, h⟩; (conv => whnf); exact ⟨rfl, rfl, rfl, rfl, rfl⟩
        · conv => whnf
          refine ⟨_, Weak.a ?_, ?_, h⟩; (conv => whnf); exact ⟨rfl, rfl, rfl, rfl, rfl⟩; exact rfl
theorem c_terms_Length {a0 : Int} {a1 : Int} {a2 : Int} {a3 : Int} {a4 : Int} {a5 : Bool} {a6 : Rws} {a7 : Int} {a8 : Int} {Q : Int × Int → Prop} {R : AV → List AB → Prop} (h : (g_terms_Length a0 a1 a2 a3 a4 a5 a6 a7 a8).run Q) (k : ∀ r, Q r → R (.tup [.int .i64 (r.fst), .int .i64 (r.snd)]) ([])) : ACalls Try.prog tab 53 [.agg [.int .i64 (a0), .int .i64 (a1), .int .i64 (a2), .int .i64 (a3), .int .i64 (a4), .sl (a5) 47 (a6), .int .i64 (a7)], .int .i64 (a8)] [] R := by
  refine ACalls.out (fun r => .tup [.int .i64 (r.fst), .int .i64 (r.snd)]) (fun r => []) (Q := Q) (ACalls.introX (mv := mv) tab_ok mixed_ (fn := Try.f53) (by kernel_rfl) rfl (by kernel_rfl) (by kernel_rfl) (leB rfl) ?_) (fun v => by first | exact ⟨rfl, leB rfl⟩ | (cases v <;> exact ⟨rfl, leB rfl⟩)) k
  conv => whnf
  refine ACalls.inn (c_terms_find (W.bindE h) (fun v1 h => ?_)) ⟨rfl, rfl⟩
  conv => whnf
  refine ⟨_, Weak.a ?_, ?_, h⟩; (conv => whnf); exact ⟨rfl, rfl, rfl, rfl, rfl⟩; exact rfl
theorem c_terms_Channels {a0 : Int} {a1 : Int} {a2 : Int} {a3 : Int} {a4 : Int} {a5 : Bool} {a6 : Rws} {a7 : Int} {a8 : Int} {Q : Int × Int → Prop} {R : AV → List AB → Prop} (h : (g_terms_Channels a0 a1 a2 a3 a4 a5 a6 a7 a8).run Q) (k : ∀ r, Q r → R (.tup [.int .i64 (r.fst), .int .i64 (r.snd)]) ([])) : ACalls Try.prog tab 32 [.agg [.int .i64 (a0), .int .i64 (a1), .int .i64 (a2), .int .i64 (a3), .int .i64 (a4), .sl (a5) 47 (a6), .int .i64 (a7)], .int .i64 (a8)] [] R := by
  refine ACalls.out (fun r => .tup [.int .i64 (r.fst), .int .i64 (r.snd)]) (fun r => []) (Q := Q) (ACalls.introX (mv := mv) tab_ok mixed_ (fn := Try.f32) (by kernel_rfl) rfl (by kernel_rfl) (by kernel_rfl) (leB rfl) ?_) (fun v => by first | exact ⟨rfl, leB rfl⟩ | (cases v <;> exact ⟨rfl, leB rfl⟩)) k
  conv => whnf
  refine ACalls.inn (c_terms_find (W.bindE h) (fun v1 h => ?_)) ⟨rfl, rfl⟩
  conv => whnf
  refine ⟨_, Weak.a ?_, ?_, h⟩; (conv => whnf); exact ⟨rfl, rfl, rfl, rfl, rfl⟩; exact rfl
theorem c_terms_Positions {a0 : Int} {a1 : Int} {a2 : Int} {a3 : Int} {a4 : Int} {a5 : Bool} {a6 : Rws} {a7 : Int} {a8 : Int} {Q : Int × Int → Prop} {R : AV → List AB → Prop} (h : (g_terms_Positions a0 a1 a2 a3 a4 a5 a6 a7 a8).run Q) (k : ∀ r, Q r → R (.tup [.int .i64 (r.fst), .int .i64 (r.snd)]) ([])) : ACalls Try.prog tab 89 [.agg [.int .i64 (a0), .int .i64 (a1), .int .i64 (a2), .int .i64 (a3), .int .i64 (a4), .sl (a5) 47 (a6), .int .i64 (a7)], .int .i64 (a8)] [] R := by
  refine ACalls.out (fun r => .tup [.int .i64 (r.fst), .int .i64 (r.snd)]) (fun r => []) (Q := Q) (ACalls.introX (mv := mv) tab_ok mixed_ (fn := Try.f89) (by kernel_rfl) rfl (by kernel_rfl) (by kernel_rfl) (leB rfl) ?_) (fun v => by first | exact ⟨rfl, leB rfl⟩ | (cases v <;> exact ⟨rfl, leB rfl⟩)) k
  conv => whnf
  refine ACalls.inn (c_terms_find (W.bindE h) (fun v1 h => ?_)) ⟨rfl, rfl⟩
  conv => whnf
  refine ⟨_, Weak.a ?_, ?_, h⟩; (conv => whnf); exact ⟨rfl, rfl, rfl, rfl, rfl⟩; exact rfl
theorem c_window_Taps {a0 : Int} {a1 : Int} {a2 : Int} {a3 : Int} {a4 : Int} {a5 : Int} {a6 : Int} {a7 : Int} {a8 : Int} {a9 : Int} {a10 : Int} {a11 : Int} {Q : (Unit) ⊕ (Int × Int × Int × Int × Int × Int × Int × Int × Int × Int × Int × Int × Int) → Prop} {R : AV → List AB → Prop} (h : (g_window_Taps a0 a1 a2 a3 a4 a5 a6 a7 a8 a9 a10 a11).run Q) (k : ∀ r, Q r → R (sx (fun r => .fn 100 [] []) (fun r => .fn 101 [] [.ptr 0 0, .ptr 1 0, .ptr 2 0, .ptr 3 0]) r) (sx (fun r => []) (fun r => [.box 41 [.int .i64 (r.fst), .int .i64 (r.snd.fst), .int .i64 (r.snd.snd.fst), .int .i64 (r.snd.snd.snd.fst), .int .i64 (r.snd.snd.snd.snd.fst), .int .i64 (r.snd.snd.snd.snd.snd.fst), .int .i64 (r.snd.snd.snd.snd.snd.snd.fst), .int .i64 (r.snd.snd.snd.snd.snd.snd.snd.fst)], .box 3 [.int .i64 (r.snd.snd.snd.snd.snd.snd.snd.snd.fst)], .box 3 [.int .i64 (r.snd.snd.snd.snd.snd.snd.snd.snd.snd.fst)], .box 23 [.int .i64 (r.snd.snd.snd.snd.snd.snd.snd.snd.snd.snd.fst), .int .i64 (r.snd.snd.snd.snd.snd.snd.snd.snd.snd.snd.snd.fst), .int .i64 (r.snd.snd.snd.snd.snd.snd.snd.snd.snd.snd.snd.snd)]]) r)) : ACalls Try.prog tab 69 [.agg [.int .i64 (a0), .int .i64 (a1), .int .i64 (a2)], .agg [.int .i64 (a3), .int .i64 (a4), .int .i64 (a5), .int .i64 (a6), .int .i64 (a7), .int .i64 (a8), .int .i64 (a9), .int .i64 (a10)], .int .i64 (a11)] [] R := by
  refine ACalls.out (fun r => sx (fun r => .fn 100 [] []) (fun r => .fn 101 [] [.ptr 0 0, .ptr 1 0, .ptr 2 0, .ptr 3 0]) r) (fun r => sx (fun r => []) (fun r => [.box 41 [.int .i64 (r.fst), .int .i64 (r.snd.fst), .int .i64 (r.snd.snd.fst), .int .i64 (r.snd.snd.snd.fst), .int .i64 (r.snd.snd.snd.snd.fst), .int .i64 (r.snd.snd.snd.snd.snd.fst), .int .i64 (r.snd.snd.snd.snd.snd.snd.fst), .int .i64 (r.snd.snd.snd.snd.snd.snd.snd.fst)], .box 3 [.int .i64 (r.snd.snd.snd.snd.snd.snd.snd.snd.fst)], .box 3 [.int .i64 (r.snd.snd.snd.snd.snd.snd.snd.snd.snd.fst)], .box 23 [.int .i64 (r.snd.snd.snd.snd.snd.snd.snd.snd.snd.snd.fst), .int .i64 (r.snd.snd.snd.snd.snd.snd.snd.snd.snd.snd.snd.fst), .int .i64 (r.snd.snd.snd.snd.snd.snd.snd.snd.snd.snd.snd.snd)]]) r) (Q := Q) (ACalls.introX (mv := mv) tab_ok mixed_ (fn := Try.f69) (by kernel_rfl) rfl (by kernel_rfl) (by kernel_rfl) (leB rfl) ?_) (fun v => by first | exact ⟨rfl, leB rfl⟩ | (cases v <;> exact ⟨rfl, leB rfl⟩)) k
  conv => whnf
  refine ACalls.inn (c_window_Out (W.bindE h) (fun v1 h => ?_)) ⟨rfl, rfl⟩
  conv => whnf
  refine ASeq.go tab_ok mixed_ ?_
  conv => whnf
  refine XSplit.mk (fun e => ?_) (fun e => ?_)
  · replace h := XSplit.t h e
    conv => whnf
    refine ⟨_, Weak.a ?_, ?_, h⟩; (conv => whnf); exact ⟨rfl, rfl, rfl, rfl, rfl⟩; exact rfl
  · replace h := XSplit.f h e
    conv => whnf
    refine ASeq.eff tab_ok mixed_ [0, 1, 2, 3, 4, 5, 6, 7, 8, 9, 10, 11, 12, 13, 14, 15, 16, 17] (.alt 18 (.alt 19 (.alt 20 (.alt 21 .done .stop) .stop) .stop) (.alt 19 (.alt 18 (.alt 20 (.alt 21 .done .stop) .stop) .stop) .stop)) (by decide +kernel) (st' := ⟨[(3, .ptr 0 0), (4, .ptr 1 0), (6, .nilf), (10, .ptr 2 0), (11, .ptr 3 0)], [(0, .box 23 [.int .i64 (a0), .int .i64 (a1), .int .i64 (a2)]), (1, .box 41 [.int .i64 (a3), .int .i64 (a4), .int .i64 (a5), .int .i64 (a6), .int .i64 (a7), .int .i64 (a8), .int .i64 (a9), .int .i64 (a10)]), (2, .box 3 [.int .i64 (IntKind.i64.wrap (IntKind.i64.wrap (IntKind.i64.wrap (a11.tdiv v1.snd.fst) * a5) - a7))]), (3, .box 3 [.int .i64 (IntKind.i64.wrap (IntKind.i64.wrap (a11.tmod v1.snd.fst * a6) - a8))])], 4, [], []⟩) ?_ ?_
    · conv => whnf
      refine XNeed.mk (XNeed.c h) ?_; replace h := XNeed.x h
      conv => whnf
      refine XNeed.mk (XNeed.c h) ?_; replace h := XNeed.x h
      conv => whnf
      refine ⟨?_, rfl⟩
      conv => whnf
      refine ⟨?_, ?_⟩
      · conv => whnf
        refine ⟨?_, ?_⟩
        · conv => whnf
          refine ⟨?_, ?_⟩
          · conv => whnf
            refine ⟨?_, ?_⟩
            · conv => whnf
              refine ⟨Weak.a ?_⟩; (conv => whnf); exact ⟨rfl, rfl, rfl, rfl, rfl⟩
            · conv => whnf
              exact trivial
          · conv => whnf
            exact trivial
        · conv => whnf
          exact trivial
      · conv => whnf
        refine ⟨?_, ?_⟩
        · conv => whnf
          refine ⟨?_, ?_⟩
          · conv => whnf
            refine ⟨?_, ?_⟩
            · conv => whnf
              refine ⟨?_, ?_⟩
              · conv => whnf
                refine ⟨Weak.a ?_⟩; (conv => whnf); exact ⟨rfl, rfl, rfl, rfl, rfl⟩
              · conv => whnf
                exact trivial
            · conv => whnf
              exact trivial
          · conv => whnf
            exact trivial
        · conv => whnf
          exact trivial
    · replace h := XNeed.x h
      replace h := XNeed.x h
      conv => whnf
      refine ⟨_, Weak.a ?_, ?_, h⟩; (conv => whnf); exact ⟨rfl, rfl, rfl, rfl, rfl⟩; exact rfl
theorem it_window_Taps_1 : AIter Try.prog tab 100 [] (fun _ : Unit => [I 0, I 0]) ([] : List (W Unit)) := AIter.nothing (fn := Try.f100) (by kernel_rfl) (by kernel_rfl) (by kernel_rfl) (by kernel_rfl)
theorem q_window_Taps_2 {a0 : Int} {a1 : Int} {a2 : Int} {a3 : Int} {a4 : Int} {a5 : Int} {a6 : Int} {a7 : Int} {a8 : Int} {a9 : Int} {a10 : Int} {a11 : Int} {a12 : Int} : XS Try.prog tab mv [itPre (bodyC Try.f101)] ⟨[(1, .rel 41 ([[I a0, I a1, I a2, I a3, I a4, I a5, I a6, I a7]]) (0) 0), (2, .rel 3 ([[I a8]]) (0) 0), (3, .rel 3 ([[I a9]]) (0) 0), (4, .rel 23 ([[I a10, I a11, I a12]]) (0) 0)], [], 0, [], []⟩ (fun s => getE s.env 14 = .int .i64 (g_window_Taps_2_n a0 a1 a2 a3 a4 a5 a6 a7 a8 a9 a10 a11 a12) ∧ getE s.env 15 = .int .i64 0) := by
  conv => whnf
  exact ⟨rfl, rfl⟩
theorem p_window_Taps_2 {i : Int} {a0 : Int} {a1 : Int} {a2 : Int} {a3 : Int} {a4 : Int} {a5 : Int} {a6 : Int} {a7 : Int} {a8 : Int} {a9 : Int} {a10 : Int} {a11 : Int} {a12 : Int} {Q : Int × Int → Prop} (h : (g_window_Taps_2 i a0 a1 a2 a3 a4 a5 a6 a7 a8 a9 a10 a11 a12).run Q) : XS Try.prog tab mv (seqTake 4 (itBlk (bodyC Try.f101))) ⟨[(15, I i), (1, .rel 41 ([[I a0, I a1, I a2, I a3, I a4, I a5, I a6, I a7]]) (0) 0), (2, .rel 3 ([[I a8]]) (0) 0), (3, .rel 3 ([[I a9]]) (0) 0), (4, .rel 23 ([[I a10, I a11, I a12]]) (0) 0)], [], 0, [], []⟩ (fun s => ∃ x, Q x ∧ all2 (GiveS tab s) [6, 9] ((fun x : Int × Int => [I x.1, I x.2]) x)) := by
  conv => whnf
  refine XDraw.q [0, 1, 2, 3, 4, 5, 6, 7, 8, 9, 10, 11, 12, 13] (by decide +kernel) ?_
  conv => whnf
  refine XNeed.mk (XNeed.c h) ?_; replace h := XNeed.x h
  conv => whnf
  refine XNeed.mk (XNeed.c h) ?_; replace h := XNeed.x h
  conv => whnf
  refine ASeq.joinW tab_ok mixed_ (fun v3 => ⟨[(4, .rel 23 ([[I a10, I a11, I a12]]) (0) 0), (6, .int .i64 (i)), (7, .int .i64 (IntKind.i64.wrap (a8 + IntKind.i64.wrap (i.tdiv a1)))), (8, .int .i64 (IntKind.i64.wrap (a9 + i.tmod a1))), (9, .int .i64 (-1)), (41, .bool (v3))], [], 0, [], []⟩) h (fun Q h => ?_) (fun v3 h => ?_)
  · conv => whnf
    refine ACalls.inn (c_window_within (W.bindE h) (fun v4 h => ?_)) ⟨rfl, rfl⟩
    conv => whnf
    refine XSplit.mk (fun e => ?_) (fun e => ?_)
    · replace h := XSplit.t h e
      conv => whnf
      refine ACalls.inn (c_window_within (W.bindE h) (fun v5 h => ?_)) ⟨rfl, rfl⟩
      conv => whnf
      refine ⟨_, Weak.a ?_, h⟩; (conv => whnf); exact ⟨rfl, rfl, rfl, rfl, rfl⟩
    · replace h := XSplit.f h e
      conv => whnf
      refine ⟨_, Weak.a ?_, h⟩; (conv => whnf); exact ⟨rfl, rfl, rfl, rfl, rfl⟩
  · conv => whnf
    refine XSplit.mk (fun e => ?_) (fun e => ?_)
    · replace h := XSplit.t h e
      conv => whnf
      exact ⟨_, h, (And.intro (Or.inl ⟨_, rfl, rfl⟩) (And.intro (Or.inl ⟨_, rfl, rfl⟩) trivial))⟩
    · replace h := XSplit.f h e
      conv => whnf
      exact ⟨_, h, (And.intro (Or.inl ⟨_, rfl, rfl⟩) (And.intro (Or.inl ⟨_, rfl, rfl⟩) trivial))⟩
theorem it_window_Taps_2 {a0 : Int} {a1 : Int} {a2 : Int} {a3 : Int} {a4 : Int} {a5 : Int} {a6 : Int} {a7 : Int} {a8 : Int} {a9 : Int} {a10 : Int} {a11 : Int} {a12 : Int} (hN : 0 ≤ g_window_Taps_2_n a0 a1 a2 a3 a4 a5 a6 a7 a8 a9 a10 a11 a12 ∧ g_window_Taps_2_n a0 a1 a2 a3 a4 a5 a6 a7 a8 a9 a10 a11 a12 ≤ 9223372036854775807) : AIter Try.prog tab 101 [[.int .i64 (a0), .int .i64 (a1), .int .i64 (a2), .int .i64 (a3), .int .i64 (a4), .int .i64 (a5), .int .i64 (a6), .int .i64 (a7)], [.int .i64 (a8)], [.int .i64 (a9)], [.int .i64 (a10), .int .i64 (a11), .int .i64 (a12)]] (fun x : Int × Int => [I x.1, I x.2]) ((List.range (g_window_Taps_2_n a0 a1 a2 a3 a4 a5 a6 a7 a8 a9 a10 a11 a12).toNat).map fun (k : Nat) => g_window_Taps_2 (k : Int) a0 a1 a2 a3 a4 a5 a6 a7 a8 a9 a10 a11 a12) :=
  AIter.count (mv := mv) tab_ok mixed_ (fn := Try.f101) (n := 54) (k := 4) (ti := 15) (tn := 14) (tc := 16) (tN := 52) (b0 := 0) (b1 := 1) (args := [6, 9]) (wr := [48, 49, 50, 51, 52]) (rels := [(41, [.int .i64 (a0), .int .i64 (a1), .int .i64 (a2), .int .i64 (a3), .int .i64 (a4), .int .i64 (a5), .int .i64 (a6), .int .i64 (a7)]), (3, [.int .i64 (a8)]), (3, [.int .i64 (a9)]), (23, [.int .i64 (a10), .int .i64 (a11), .int .i64 (a12)])]) (N := g_window_Taps_2_n a0 a1 a2 a3 a4 a5 a6 a7 a8 a9 a10 a11 a12) (pre := itPre (bodyC Try.f101)) (R1 := itR1 (bodyC Try.f101)) (Y := itY 4 (bodyC Try.f101)) (INC := itInc (bodyC Try.f101)) (ps := seqTake 4 (itBlk (bodyC Try.f101))) (em := (fun x : Int × Int => [I x.1, I x.2])) (row := fun (k : Nat) => g_window_Taps_2 (k : Int) a0 a1 a2 a3 a4 a5 a6 a7 a8 a9 a10 a11 a12) (by kernel_rfl) (by kernel_rfl) rfl rfl (by kernel_rfl) (And.intro ⟨_, rfl, leB rfl, rfl⟩ (And.intro ⟨_, rfl, leB rfl, rfl⟩ (And.intro ⟨_, rfl, leB rfl, rfl⟩ (And.intro ⟨_, rfl, leB rfl, rfl⟩ trivial)))) rfl hN.1
    ⟨leB rfl, by decide, by decide, by decide +kernel, by decide +kernel, by decide +kernel, by decide +kernel, YReg.two (tA := 48) (tB := 49) (tD := 50) (tR := 51) (tN := 52) (src := 6) (src2 := 9) rfl (by decide), q_window_Taps_2, fun i => (by (conv => whnf); exact rfl), fun i Q _ h => p_window_Taps_2 h, fun i hi => (by (conv => whnf); exact inc64 hi hN.2)⟩
theorem c__terms_site__places {a0 : Int} {a1 : Int} {a2 : Int} {a3 : Int} {a4 : Int} {a5 : Int} {a6 : Int} {a7 : Int} {a8 : Int} {a9 : Int} {a10 : Int} {a11 : Int} {a12 : Bool} {a13 : Rws} {a14 : Bool} {a15 : Rws} {a16 : Int} {a17 : Int} {a18 : Int} {a19 : Int} {a20 : Int} {a21 : Int} {a22 : Int} {a23 : Int} {a24 : Int} {a25 : Int} {a26 : Int} {a27 : Int} {a28 : Int} {a29 : Int} {a30 : Int} {a31 : Int} {a32 : Int} {Q : Bool × Rws → Prop} {R : AV → List AB → Prop} (h : (g__terms_site__places a0 a1 a2 a3 a4 a5 a6 a7 a8 a9 a10 a11 a12 a13 a14 a15 a16 a17 a18 a19 a20 a21 a22 a23 a24 a25 a26 a27 a28 a29 a30 a31 a32).run Q) (k : ∀ r, Q r → R (.own 0) ([.arr true 3 (r.fst) (r.snd)])) : ACalls Try.prog tab 114 [.agg [.int .i64 (a0), .int .i64 (a1), .int .i64 (a2), .int .i64 (a3), .int .i64 (a4), .int .i64 (a5), .int .i64 (a6), .int .i64 (a7), .int .i64 (a8), .int .i64 (a9), .int .i64 (a10), .int .i64 (a11), .sl (a12) 48 (a13), .sl (a14) 21 (a15), .int .i64 (a16), .int .i64 (a17), .int .i64 (a18), .int .i64 (a19), .int .i64 (a20), .int .i64 (a21), .int .i64 (a22), .int .i64 (a23), .int .i64 (a24), .int .i64 (a25), .int .i64 (a26), .int .i64 (a27), .int .i64 (a28), .int .i64 (a29), .int .i64 (a30)], .int .i64 (a31), .int .i64 (a32)] [] R := by
  refine ACalls.out (fun r => .own 0) (fun r => [.arr true 3 (r.fst) (r.snd)]) (Q := Q) (ACalls.introX (mv := mv) tab_ok mixed_ (fn := Try.f114) (by kernel_rfl) rfl (by kernel_rfl) (by kernel_rfl) (leB rfl) ?_) (fun v => by first | exact ⟨rfl, leB rfl⟩ | (cases v <;> exact ⟨rfl, leB rfl⟩)) k
  conv => whnf
  refine ASeq.go tab_ok mixed_ ?_
  conv => whnf
  refine XSplit.mk (fun e => ?_) (fun e => ?_)
  · replace h := XSplit.t h e
    conv => whnf
    refine ASeq.go tab_ok mixed_ ?_
    conv => whnf
    refine ALoop.ofW tab_ok mixed_ (fun v15 => ⟨[(6, .nils), (7, .ptr 0 0), (19, .int .i64 (a30)), (20, .int .i64 (v15.fst))], [(0, .box 65 [.own 1]), (1, .arr true 3 (v15.snd.fst) (v15.snd.snd))], 2, [], []⟩) (fun v16 => (.exit 0, ⟨[(6, .nils), (7, .ptr 0 0)], [(0, .box 65 [.own 1]), (1, .arr true 3 (v16.fst) (v16.snd))], 2, [], []⟩)) (W.bindE h) (Weak.a ?_) (fun v15 J_ Q h => ?_) (fun v16 h => ?_)
    · conv => whnf
      exact ⟨rfl, rfl, rfl, rfl, rfl⟩
    · conv => whnf
      refine ASeq.go tab_ok mixed_ ?_
      conv => whnf
      refine XSplit.mk (fun e => ?_) (fun e => ?_)
      · replace h := XSplit.t h e
        conv => whnf
        refine ASeq.go tab_ok mixed_ ?_
        conv => whnf
        refine XNeed.mk (XNeed.c h) ?_; replace h := XNeed.x h
        conv => whnf
        refine ⟨_, Weak.a ?_, h⟩; (conv => whnf); exact ⟨rfl, rfl, rfl, rfl, rfl⟩
      · replace h := XSplit.f h e
        conv => whnf
        refine ⟨_, ?_, Weak.a ?_, h⟩; exact rfl; (conv => whnf); exact ⟨rfl, rfl, rfl, rfl, rfl⟩
    · conv => whnf
      refine ⟨_, Weak.a ?_, ?_, h⟩; (conv => whnf); exact ⟨rfl, rfl, rfl, rfl, rfl⟩; exact rfl
  · replace h := XSplit.f h e
    conv => whnf
    refine ASeq.joinW tab_ok mixed_ (fun v17 => ⟨[(2, .int .i64 (a32)), (3, .ptr 0 0), (6, .nils), (7, .ptr 1 0), (9, .ptr 2 0), (10, .ptr 3 0)], [(0, .box 107 [.int .i64 (a0), .int .i64 (a1), .int .i64 (a2), .int .i64 (a3), .int .i64 (a4), .int .i64 (a5), .int .i64 (a6), .int .i64 (a7), .int .i64 (a8), .int .i64 (a9), .int .i64 (a10), .int .i64 (a11), .sl (a12) 48 (a13), .sl (a14) 21 (a15), .int .i64 (a16), .int .i64 (a17), .int .i64 (a18), .int .i64 (a19), .int .i64 (a20), .int .i64 (a21), .int .i64 (a22), .int .i64 (a23), .int .i64 (a24), .int .i64 (a25), .int .i64 (a26), .int .i64 (a27), .int .i64 (a28), .int .i64 (a29), .int .i64 (a30)]), (1, .box 65 [.nils]), (2, .box 3 [.int .i64 (v17.fst)]), (3, .box 3 [.int .i64 (v17.snd)])], 4, [], []⟩) h (fun Q h => ?_) (fun v17 h => ?_)
    · conv => whnf
      refine XSplit.mk (fun e => ?_) (fun e => ?_)
      · replace h := XSplit.t h e
        conv => whnf
        refine XDraw.d [0, 1, 2, 3, 4, 5] [[], [], [], [], [2], [3]] (by decide +kernel) ?_
        conv => whnf
        refine ⟨_, Weak.a ?_, h⟩; (conv => whnf); exact ⟨rfl, rfl, rfl, rfl, rfl⟩
      · replace h := XSplit.f h e
        conv => whnf
        refine ⟨_, Weak.a ?_, h⟩; (conv => whnf); exact ⟨rfl, rfl, rfl, rfl, rfl⟩
    · conv => whnf
      refine ASeq.joinW tab_ok mixed_ (fun v18 => ⟨[(6, .nils), (7, .ptr 0 0)], [(0, .box 65 [.own 1]), (1, .arr true 3 (v18.fst) (v18.snd))], 2, [], []⟩) h (fun Q h => ?_) (fun v18 h => ?_)
      · conv => whnf
        refine ACalls.inn (c_window_Taps (W.bindE h) (fun v h => ?_)) ⟨rfl, rfl⟩
        rcases v with v19 | v23
        · conv => whnf
          refine ASeq.range tab_ok mixed_ 0 (ids := []) (cs := []) (fx := [3, 6, 7, 9, 10, 47]) (fun v20 => ⟨[(3, .ptr 0 0), (6, .nils), (7, .ptr 1 0), (9, .ptr 2 0), (10, .ptr 3 0), (47, .fn 100 [] [])], [(0, .box 107 [.int .i64 (a0), .int .i64 (a1), .int .i64 (a2), .int .i64 (a3), .int .i64 (a4), .int .i64 (a5), .int .i64 (a6), .int .i64 (a7), .int .i64 (a8), .int .i64 (a9), .int .i64 (a10), .int .i64 (a11), .sl (a12) 48 (a13), .sl (a14) 21 (a15), .int .i64 (a16), .int .i64 (a17), .int .i64 (a18), .int .i64 (a19), .int .i64 (a20), .int .i64 (a21), .int .i64 (a22), .int .i64 (a23), .int .i64 (a24), .int .i64 (a25), .int .i64 (a26), .int .i64 (a27), .int .i64 (a28), .int .i64 (a29), .int .i64 (a30)]), (1, .box 65 [.nils]), (2, .box 3 [.int .i64 (v17.fst)]), (3, .box 3 [.int .i64 (v17.snd)])], 4, [], []⟩) _ ⟨fun _ => rfl, fun _ => trivial, rfl, rfl, leB rfl, fun _ => leB rfl, fun _ => rfl, fun _ => ⟨rfl, rfl⟩, rfl, by decide +kernel, by decide +kernel⟩ it_window_Taps_1 (fun _ => rfl) (W.bindE h) (Weak.a ?_) (fun _ v20 Q h => ?_) (fun v22 h => ?_)
          · conv => whnf
            exact ⟨rfl, rfl, rfl, rfl, rfl⟩
          · skip
            exact h.elim
          · conv => whnf
            refine ⟨_, Weak.a ?_, h⟩; (conv => whnf); exact ⟨rfl, rfl, rfl, rfl, rfl⟩
        · conv => whnf
          have hN := XNeed.c h; replace h := XNeed.x h
          refine ASeq.range tab_ok mixed_ 4 (ids := [0, 1, 2, 3]) (cs := [[.int .i64 (v23.fst), .int .i64 (v23.snd.fst), .int .i64 (v23.snd.snd.fst), .int .i64 (v23.snd.snd.snd.fst), .int .i64 (v23.snd.snd.snd.snd.fst), .int .i64 (v23.snd.snd.snd.snd.snd.fst), .int .i64 (v23.snd.snd.snd.snd.snd.snd.fst), .int .i64 (v23.snd.snd.snd.snd.snd.snd.snd.fst)], [.int .i64 (v23.snd.snd.snd.snd.snd.snd.snd.snd.fst)], [.int .i64 (v23.snd.snd.snd.snd.snd.snd.snd.snd.snd.fst)], [.int .i64 (v23.snd.snd.snd.snd.snd.snd.snd.snd.snd.snd.fst), .int .i64 (v23.snd.snd.snd.snd.snd.snd.snd.snd.snd.snd.snd.fst), .int .i64 (v23.snd.snd.snd.snd.snd.snd.snd.snd.snd.snd.snd.snd)]]) (fx := [3, 6, 7, 9, 10, 47]) (fun v24 => ⟨[(3, .ptr 4 0), (6, .nils), (7, .ptr 5 0), (9, .ptr 6 0), (10, .ptr 7 0), (47, .fn 101 [] [.ptr 0 0, .ptr 1 0, .ptr 2 0, .ptr 3 0])], [(0, .box 41 [.int .i64 (v23.fst), .int .i64 (v23.snd.fst), .int .i64 (v23.snd.snd.fst), .int .i64 (v23.snd.snd.snd.fst), .int .i64 (v23.snd.snd.snd.snd.fst), .int .i64 (v23.snd.snd.snd.snd.snd.fst), .int .i64 (v23.snd.snd.snd.snd.snd.snd.fst), .int .i64 (v23.snd.snd.snd.snd.snd.snd.snd.fst)]), (1, .box 3 [.int .i64 (v23.snd.snd.snd.snd.snd.snd.snd.snd.fst)]), (2, .box 3 [.int .i64 (v23.snd.snd.snd.snd.snd.snd.snd.snd.snd.fst)]), (3, .box 23 [.int .i64 (v23.snd.snd.snd.snd.snd.snd.snd.snd.snd.snd.fst), .int .i64 (v23.snd.snd.snd.snd.snd.snd.snd.snd.snd.snd.snd.fst), .int .i64 (v23.snd.snd.snd.snd.snd.snd.snd.snd.snd.snd.snd.snd)]), (4, .box 107 [.int .i64 (a0), .int .i64 (a1), .int .i64 (a2), .int .i64 (a3), .int .i64 (a4), .int .i64 (a5), .int .i64 (a6), .int .i64 (a7), .int .i64 (a8), .int .i64 (a9), .int .i64 (a10), .int .i64 (a11), .sl (a12) 48 (a13), .sl (a14) 21 (a15), .int .i64 (a16), .int .i64 (a17), .int .i64 (a18), .int .i64 (a19), .int .i64 (a20), .int .i64 (a21), .int .i64 (a22), .int .i64 (a23), .int .i64 (a24), .int .i64 (a25), .int .i64 (a26), .int .i64 (a27), .int .i64 (a28), .int .i64 (a29), .int .i64 (a30)]), (5, .box 65 [.own 8]), (6, .box 3 [.int .i64 (v17.fst)]), (7, .box 3 [.int .i64 (v17.snd)]), (8, .arr true 3 (v24.fst) (v24.snd))], 9, [], []⟩) _ ⟨fun _ => rfl, fun _ => (And.intro (Exists.intro _ rfl) (And.intro (Exists.intro _ rfl) (And.intro (Exists.intro _ rfl) (And.intro (Exists.intro _ rfl) trivial)))), rfl, rfl, leB rfl, fun _ => leB rfl, fun _ => rfl, fun _ => ⟨rfl, rfl⟩, rfl, by decide +kernel, by decide +kernel⟩ (it_window_Taps_2 hN) (fun _ => rfl) (W.bindE h) (Weak.a ?_) (fun v25 v24 Q h => ?_) (fun v29 h => ?_)
          · conv => whnf
            exact ⟨rfl, rfl, rfl, rfl, rfl⟩
          · conv => whnf
            refine ALoop.ofW tab_ok mixed_ (fun v26 => ⟨[(3, .ptr 4 0), (6, .nils), (7, .ptr 5 0), (9, .ptr 6 0), (10, .ptr 7 0), (12, .int .i64 (v25.snd)), (13, .int .i64 (v26.fst)), (47, .fn 101 [] [.ptr 0 0, .ptr 1 0, .ptr 2 0, .ptr 3 0]), (50, .int .i64 (v17.fst))], [(0, .box 41 [.int .i64 (v23.fst), .int .i64 (v23.snd.fst), .int .i64 (v23.snd.snd.fst), .int .i64 (v23.snd.snd.snd.fst), .int .i64 (v23.snd.snd.snd.snd.fst), .int .i64 (v23.snd.snd.snd.snd.snd.fst), .int .i64 (v23.snd.snd.snd.snd.snd.snd.fst), .int .i64 (v23.snd.snd.snd.snd.snd.snd.snd.fst)]), (1, .box 3 [.int .i64 (v23.snd.snd.snd.snd.snd.snd.snd.snd.fst)]), (2, .box 3 [.int .i64 (v23.snd.snd.snd.snd.snd.snd.snd.snd.snd.fst)]), (3, .box 23 [.int .i64 (v23.snd.snd.snd.snd.snd.snd.snd.snd.snd.snd.fst), .int .i64 (v23.snd.snd.snd.snd.snd.snd.snd.snd.snd.snd.snd.fst), .int .i64 (v23.snd.snd.snd.snd.snd.snd.snd.snd.snd.snd.snd.snd)]), (4, .box 107 [.int .i64 (a0), .int .i64 (a1), .int .i64 (a2), .int .i64 (a3), .int .i64 (a4), .int .i64 (a5), .int .i64 (a6), .int .i64 (a7), .int .i64 (a8), .int .i64 (a9), .int .i64 (a10), .int .i64 (a11), .sl (a12) 48 (a13), .sl (a14) 21 (a15), .int .i64 (a16), .int .i64 (a17), .int .i64 (a18), .int .i64 (a19), .int .i64 (a20), .int .i64 (a21), .int .i64 (a22), .int .i64 (a23), .int .i64 (a24), .int .i64 (a25), .int .i64 (a26), .int .i64 (a27), .int .i64 (a28), .int .i64 (a29), .int .i64 (a30)]), (5, .box 65 [.own 8]), (6, .box 3 [.int .i64 (v17.fst)]), (7, .box 3 [.int .i64 (v17.snd)]), (8, .arr true 3 (v26.snd.fst) (v26.snd.snd))], 9, [], []⟩) (fun v27 => (.exit 4, ⟨[(3, .ptr 4 0), (6, .nils), (7, .ptr 5 0), (9, .ptr 6 0), (10, .ptr 7 0), (12, .int .i64 (v25.snd)), (13, .int .i64 (v27.fst)), (47, .fn 101 [] [.ptr 0 0, .ptr 1 0, .ptr 2 0, .ptr 3 0]), (50, .int .i64 (v17.fst)), (51, .int .i64 (v27.snd.fst)), (52, .int .i64 (v17.snd)), (53, .bool (v27.snd.snd.fst))], [(0, .box 41 [.int .i64 (v23.fst), .int .i64 (v23.snd.fst), .int .i64 (v23.snd.snd.fst), .int .i64 (v23.snd.snd.snd.fst), .int .i64 (v23.snd.snd.snd.snd.fst), .int .i64 (v23.snd.snd.snd.snd.snd.fst), .int .i64 (v23.snd.snd.snd.snd.snd.snd.fst), .int .i64 (v23.snd.snd.snd.snd.snd.snd.snd.fst)]), (1, .box 3 [.int .i64 (v23.snd.snd.snd.snd.snd.snd.snd.snd.fst)]), (2, .box 3 [.int .i64 (v23.snd.snd.snd.snd.snd.snd.snd.snd.snd.fst)]), (3, .box 23 [.int .i64 (v23.snd.snd.snd.snd.snd.snd.snd.snd.snd.snd.fst), .int .i64 (v23.snd.snd.snd.snd.snd.snd.snd.snd.snd.snd.snd.fst), .int .i64 (v23.snd.snd.snd.snd.snd.snd.snd.snd.snd.snd.snd.snd)]), (4, .box 107 [.int .i64 (a0), .int .i64 (a1), .int .i64 (a2), .int .i64 (a3), .int .i64 (a4), .int .i64 (a5), .int .i64 (a6), .int .i64 (a7), .int .i64 (a8), .int .i64 (a9), .int .i64 (a10), .int .i64 (a11), .sl (a12) 48 (a13), .sl (a14) 21 (a15), .int .i64 (a16), .int .i64 (a17), .int .i64 (a18), .int .i64 (a19), .int .i64 (a20), .int .i64 (a21), .int .i64 (a22), .int .i64 (a23), .int .i64 (a24), .int .i64 (a25), .int .i64 (a26), .int .i64 (a27), .int .i64 (a28), .int .i64 (a29), .int .i64 (a30)]), (5, .box 65 [.own 8]), (6, .box 3 [.int .i64 (v17.fst)]), (7, .box 3 [.int .i64 (v17.snd)]), (8, .arr true 3 (v27.snd.snd.snd.fst) (v27.snd.snd.snd.snd))], 9, [], []⟩)) (W.bindE h) (Weak.a ?_) (fun v26 J_ Q h => ?_) (fun v27 h => ?_)
            · conv => whnf
              exact ⟨rfl, rfl, rfl, rfl, rfl⟩
            · conv => whnf
              refine ASeq.go tab_ok mixed_ ?_
              conv => whnf
              refine XSplit.mk (fun e => ?_) (fun e => ?_)
              · replace h := XSplit.t h e
                conv => whnf
                refine ASeq.joinW tab_ok mixed_ (fun v28 => ⟨[(3, .ptr 4 0), (6, .nils), (7, .ptr 5 0), (9, .ptr 6 0), (10, .ptr 7 0), (12, .int .i64 (v25.snd)), (13, .int .i64 (v26.fst)), (47, .fn 101 [] [.ptr 0 0, .ptr 1 0, .ptr 2 0, .ptr 3 0]), (50, .int .i64 (v17.fst)), (51, .int .i64 (v26.fst)), (52, .int .i64 (v17.snd)), (53, .bool (decide (v26.fst ≤ v17.snd))), (56, .int .i64 (v25.snd)), (57, .bool (decide (v25.snd < 0)))], [(0, .box 41 [.int .i64 (v23.fst), .int .i64 (v23.snd.fst), .int .i64 (v23.snd.snd.fst), .int .i64 (v23.snd.snd.snd.fst), .int .i64 (v23.snd.snd.snd.snd.fst), .int .i64 (v23.snd.snd.snd.snd.snd.fst), .int .i64 (v23.snd.snd.snd.snd.snd.snd.fst), .int .i64 (v23.snd.snd.snd.snd.snd.snd.snd.fst)]), (1, .box 3 [.int .i64 (v23.snd.snd.snd.snd.snd.snd.snd.snd.fst)]), (2, .box 3 [.int .i64 (v23.snd.snd.snd.snd.snd.snd.snd.snd.snd.fst)]), (3, .box 23 [.int .i64 (v23.snd.snd.snd.snd.snd.snd.snd.snd.snd.snd.fst), .int .i64 (v23.snd.snd.snd.snd.snd.snd.snd.snd.snd.snd.snd.fst), .int .i64 (v23.snd.snd.snd.snd.snd.snd.snd.snd.snd.snd.snd.snd)]), (4, .box 107 [.int .i64 (a0), .int .i64 (a1), .int .i64 (a2), .int .i64 (a3), .int .i64 (a4), .int .i64 (a5), .int .i64 (a6), .int .i64 (a7), .int .i64 (a8), .int .i64 (a9), .int .i64 (a10), .int .i64 (a11), .sl (a12) 48 (a13), .sl (a14) 21 (a15), .int .i64 (a16), .int .i64 (a17), .int .i64 (a18), .int .i64 (a19), .int .i64 (a20), .int .i64 (a21), .int .i64 (a22), .int .i64 (a23), .int .i64 (a24), .int .i64 (a25), .int .i64 (a26), .int .i64 (a27), .int .i64 (a28), .int .i64 (a29), .int .i64 (a30)]), (5, .box 65 [.own 8]), (6, .box 3 [.int .i64 (v17.fst)]), (7, .box 3 [.int .i64 (v17.snd)]), (8, .arr true 3 (v26.snd.fst && false) (v28))], 9, [], []⟩) h (fun Q h => ?_) (fun v28 h => ?_)
                · conv => whnf
                  refine XSplit.mk (fun e => ?_) (fun e => ?_)
                  · replace h := XSplit.t h e
                    conv => whnf
                    refine XNeed.mk (XNeed.c h) ?_; replace h := XNeed.x h
                    conv => whnf
                    refine ⟨_, Weak.a ?_, h⟩; (conv => whnf); exact ⟨rfl, rfl, rfl, rfl, rfl⟩
                  · replace h := XSplit.f h e
                    conv => whnf
                    refine XNeed.mk (XNeed.c h) ?_; replace h := XNeed.x h
                    conv => whnf
                    refine ⟨_, Weak.a ?_, h⟩; (conv => whnf); exact ⟨rfl, rfl, rfl, rfl, rfl⟩
                · conv => whnf
                  refine ⟨_, Weak.a ?_, h⟩; (conv => whnf); exact ⟨rfl, rfl, rfl, rfl, rfl⟩
              · replace h := XSplit.f h e
                conv => whnf
                refine ⟨_, ?_, Weak.a ?_, h⟩; exact rfl; (conv => whnf); exact ⟨rfl, rfl, rfl, rfl, rfl⟩
            · conv => whnf
              refine ⟨_, Weak.a ?_, h⟩; (conv => whnf); exact ⟨rfl, rfl, rfl, rfl, rfl⟩
          · conv => whnf
            refine ⟨_, Weak.a ?_, h⟩; (conv => whnf); exact ⟨rfl, rfl, rfl, rfl, rfl⟩
      · conv => whnf
        refine ⟨_, Weak.a ?_, ?_, h⟩; (conv => whnf); exact ⟨rfl, rfl, rfl, rfl, rfl⟩; exact rfl
theorem c_terms_Of {a0 : Int} {a1 : Int} {a2 : Int} {a3 : Int} {a4 : Int} {a5 : Bool} {a6 : Rws} {a7 : Int} {a8 : Int} {a9 : Int} {a10 : Int} {Q : Int × Int × Bool × Rws → Prop} {R : AV → List AB → Prop} (h : (g_terms_Of a0 a1 a2 a3 a4 a5 a6 a7 a8 a9 a10).run Q) (k : ∀ r, Q r → R (.tup [.own 0, .int .i64 (r.fst), .int .i64 (r.snd.fst)]) ([.arr true 178 (r.snd.snd.fst) (r.snd.snd.snd)])) : ACalls Try.prog tab 90 [.agg [.int .i64 (a0), .int .i64 (a1), .int .i64 (a2), .int .i64 (a3), .int .i64 (a4), .sl (a5) 47 (a6), .int .i64 (a7)], .int .i64 (a8), .int .i64 (a9), .int .i64 (a10)] [] R := by
  refine ACalls.out (fun r => .tup [.own 0, .int .i64 (r.fst), .int .i64 (r.snd.fst)]) (fun r => [.arr true 178 (r.snd.snd.fst) (r.snd.snd.snd)]) (Q := Q) (ACalls.introX (mv := mv) tab_ok mixed_ (fn := Try.f90) (by kernel_rfl) rfl (by kernel_rfl) (by kernel_rfl) (leB rfl) ?_) (fun v => by first | exact ⟨rfl, leB rfl⟩ | (cases v <;> exact ⟨rfl, leB rfl⟩)) k
  conv => whnf
  refine ACalls.inn (c_terms_find (W.bindE h) (fun v7 h => ?_)) ⟨rfl, rfl⟩
  conv => whnf
  refine ASeq.go tab_ok mixed_ ?_
  conv => whnf
  refine XSplit.mk (fun e => ?_) (fun e => ?_)
  · replace h := XSplit.t h e
    conv => whnf
    refine ⟨_, Weak.a ?_, ?_, h⟩; (conv => whnf); exact ⟨rfl, rfl, rfl, rfl, rfl⟩; exact rfl
  · replace h := XSplit.f h e
    conv => whnf
    refine ASeq.go tab_ok mixed_ ?_
    conv => whnf
    refine XSplit.mk (fun e => ?_) (fun e => ?_)
    · replace h := XSplit.t h e
      conv => whnf
      refine ⟨_, Weak.a ?_, ?_, h⟩; (conv => whnf); exact ⟨rfl, rfl, rfl, rfl, rfl⟩; exact rfl
    · replace h := XSplit.f h e
      conv => whnf
      refine XNeed.mk (XNeed.c h) ?_; replace h := XNeed.x h
      conv => whnf
      refine ASeq.go tab_ok mixed_ ?_
      conv => whnf
      refine ACalls.inn (c__terms_site__places (W.bindE h) (fun v8 h => ?_)) ⟨rfl, rfl⟩
      conv => whnf
      refine ALoop.ofW tab_ok mixed_ (fun v9 => ⟨[(2, .int .i64 (a9)), (8, .nils), (9, .int .i64 (0)), (10, .int .i64 (0)), (11, .ptr 0 0), (13, .int .i64 (0)), (14, .own 1), (58, .own 2), (59, .int .i64 ((↑(List.length v8.snd) : Int))), (60, .int .i64 (v9.fst))], [(0, .box 107 [.int .i64 (v7.fst), .int .i64 (v7.snd.fst), .int .i64 (v7.snd.snd.fst), .int .i64 (v7.snd.snd.snd.fst), .int .i64 (v7.snd.snd.snd.snd.fst), .int .i64 (v7.snd.snd.snd.snd.snd.fst), .int .i64 (v7.snd.snd.snd.snd.snd.snd.fst), .int .i64 (v7.snd.snd.snd.snd.snd.snd.snd.fst), .int .i64 (v7.snd.snd.snd.snd.snd.snd.snd.snd.fst), .int .i64 (v7.snd.snd.snd.snd.snd.snd.snd.snd.snd.fst), .int .i64 (v7.snd.snd.snd.snd.snd.snd.snd.snd.snd.snd.fst), .int .i64 (v7.snd.snd.snd.snd.snd.snd.snd.snd.snd.snd.snd.fst), .sl (v7.snd.snd.snd.snd.snd.snd.snd.snd.snd.snd.snd.snd.fst) 48 (v7.snd.snd.snd.snd.snd.snd.snd.snd.snd.snd.snd.snd.snd.fst), .sl (v7.snd.snd.snd.snd.snd.snd.snd.snd.snd.snd.snd.snd.snd.snd.fst) 21 (v7.snd.snd.snd.snd.snd.snd.snd.snd.snd.snd.snd.snd.snd.snd.snd.fst), .int .i64 (v7.snd.snd.snd.snd.snd.snd.snd.snd.snd.snd.snd.snd.snd.snd.snd.snd.fst), .int .i64 (v7.snd.snd.snd.snd.snd.snd.snd.snd.snd.snd.snd.snd.snd.snd.snd.snd.snd.fst), .int .i64 (v7.snd.snd.snd.snd.snd.snd.snd.snd.snd.snd.snd.snd.snd.snd.snd.snd.snd.snd.fst), .int .i64 (v7.snd.snd.snd.snd.snd.snd.snd.snd.snd.snd.snd.snd.snd.snd.snd.snd.snd.snd.snd.fst), .int .i64 (v7.snd.snd.snd.snd.snd.snd.snd.snd.snd.snd.snd.snd.snd.snd.snd.snd.snd.snd.snd.snd.fst), .int .i64 (v7.snd.snd.snd.snd.snd.snd.snd.snd.snd.snd.snd.snd.snd.snd.snd.snd.snd.snd.snd.snd.snd.fst), .int .i64 (v7.snd.snd.snd.snd.snd.snd.snd.snd.snd.snd.snd.snd.snd.snd.snd.snd.snd.snd.snd.snd.snd.snd.fst), .int .i64 (v7.snd.snd.snd.snd.snd.snd.snd.snd.snd.snd.snd.snd.snd.snd.snd.snd.snd.snd.snd.snd.snd.snd.snd.fst), .int .i64 (v7.snd.snd.snd.snd.snd.snd.snd.snd.snd.snd.snd.snd.snd.snd.snd.snd.snd.snd.snd.snd.snd.snd.snd.snd.fst), .int .i64 (v7.snd.snd.snd.snd.snd.snd.snd.snd.snd.snd.snd.snd.snd.snd.snd.snd.snd.snd.snd.snd.snd.snd.snd.snd.snd.fst), .int .i64 (v7.snd.snd.snd.snd.snd.snd.snd.snd.snd.snd.snd.snd.snd.snd.snd.snd.snd.snd.snd.snd.snd.snd.snd.snd.snd.snd.fst), .int .i64 (v7.snd.snd.snd.snd.snd.snd.snd.snd.snd.snd.snd.snd.snd.snd.snd.snd.snd.snd.snd.snd.snd.snd.snd.snd.snd.snd.snd.fst), .int .i64 (v7.snd.snd.snd.snd.snd.snd.snd.snd.snd.snd.snd.snd.snd.snd.snd.snd.snd.snd.snd.snd.snd.snd.snd.snd.snd.snd.snd.snd.fst), .int .i64 (v7.snd.snd.snd.snd.snd.snd.snd.snd.snd.snd.snd.snd.snd.snd.snd.snd.snd.snd.snd.snd.snd.snd.snd.snd.snd.snd.snd.snd.snd.fst), .int .i64 (v7.snd.snd.snd.snd.snd.snd.snd.snd.snd.snd.snd.snd.snd.snd.snd.snd.snd.snd.snd.snd.snd.snd.snd.snd.snd.snd.snd.snd.snd.snd.fst)]), (1, .arr true 178 (false) (v9.snd)), (2, .arr true 3 (v8.fst) (v8.snd))], 3, [], []⟩) (fun v10 => (.exit 0, ⟨[(2, .int .i64 (a9)), (8, .nils), (9, .int .i64 (0)), (10, .int .i64 (0)), (11, .ptr 0 0), (13, .int .i64 (0)), (14, .own 1)], [(0, .box 107 [.int .i64 (v7.fst), .int .i64 (v7.snd.fst), .int .i64 (v7.snd.snd.fst), .int .i64 (v7.snd.snd.snd.fst), .int .i64 (v7.snd.snd.snd.snd.fst), .int .i64 (v7.snd.snd.snd.snd.snd.fst), .int .i64 (v7.snd.snd.snd.snd.snd.snd.fst), .int .i64 (v7.snd.snd.snd.snd.snd.snd.snd.fst), .int .i64 (v7.snd.snd.snd.snd.snd.snd.snd.snd.fst), .int .i64 (v7.snd.snd.snd.snd.snd.snd.snd.snd.snd.fst), .int .i64 (v7.snd.snd.snd.snd.snd.snd.snd.snd.snd.snd.fst), .int .i64 (v7.snd.snd.snd.snd.snd.snd.snd.snd.snd.snd.snd.fst), .sl (v7.snd.snd.snd.snd.snd.snd.snd.snd.snd.snd.snd.snd.fst) 48 (v7.snd.snd.snd.snd.snd.snd.snd.snd.snd.snd.snd.snd.snd.fst), .sl (v7.snd.snd.snd.snd.snd.snd.snd.snd.snd.snd.snd.snd.snd.snd.fst) 21 (v7.snd.snd.snd.snd.snd.snd.snd.snd.snd.snd.snd.snd.snd.snd.snd.fst), .int .i64 (v7.snd.snd.snd.snd.snd.snd.snd.snd.snd.snd.snd.snd.snd.snd.snd.snd.fst), .int .i64 (v7.snd.snd.snd.snd.snd.snd.snd.snd.snd.snd.snd.snd.snd.snd.snd.snd.snd.fst), .int .i64 (v7.snd.snd.snd.snd.snd.snd.snd.snd.snd.snd.snd.snd.snd.snd.snd.snd.snd.snd.fst), .int .i64 (v7.snd.snd.snd.snd.snd.snd.snd.snd.snd.snd.snd.snd.snd.snd.snd.snd.snd.snd.snd.fst), .int .i64 (v7.snd.snd.snd.snd.snd.snd.snd.snd.snd.snd.snd.snd.snd.snd.snd.snd.snd.snd.snd.snd.fst), .int .i64 (v7.snd.snd.snd.snd.snd.snd.snd.snd.snd.snd.snd.snd.snd.snd.snd.snd.snd.snd.snd.snd.snd.fst), .int .i64 (v7.snd.snd.snd.snd.snd.snd.snd.snd.snd.snd.snd.snd.snd.snd.snd.snd.snd.snd.snd.snd.snd.snd.fst), .int .i64 (v7.snd.snd.snd.snd.snd.snd.snd.snd.snd.snd.snd.snd.snd.snd.snd.snd.snd.snd.snd.snd.snd.snd.snd.fst), .int .i64 (v7.snd.snd.snd.snd.snd.snd.snd.snd.snd.snd.snd.snd.snd.snd.snd.snd.snd.snd.snd.snd.snd.snd.snd.snd.fst), .int .i64 (v7.snd.snd.snd.snd.snd.snd.snd.snd.snd.snd.snd.snd.snd.snd.snd.snd.snd.snd.snd.snd.snd.snd.snd.snd.snd.fst), .int .i64 (v7.snd.snd.snd.snd.snd.snd.snd.snd.snd.snd.snd.snd.snd.snd.snd.snd.snd.snd.snd.snd.snd.snd.snd.snd.snd.snd.fst), .int .i64 (v7.snd.snd.snd.snd.snd.snd.snd.snd.snd.snd.snd.snd.snd.snd.snd.snd.snd.snd.snd.snd.snd.snd.snd.snd.snd.snd.snd.fst), .int .i64 (v7.snd.snd.snd.snd.snd.snd.snd.snd.snd.snd.snd.snd.snd.snd.snd.snd.snd.snd.snd.snd.snd.snd.snd.snd.snd.snd.snd.snd.fst), .int .i64 (v7.snd.snd.snd.snd.snd.snd.snd.snd.snd.snd.snd.snd.snd.snd.snd.snd.snd.snd.snd.snd.snd.snd.snd.snd.snd.snd.snd.snd.snd.fst), .int .i64 (v7.snd.snd.snd.snd.snd.snd.snd.snd.snd.snd.snd.snd.snd.snd.snd.snd.snd.snd.snd.snd.snd.snd.snd.snd.snd.snd.snd.snd.snd.snd.fst)]), (1, .arr true 178 (false) (v10))], 2, [], []⟩)) (W.bindE h) (Weak.a ?_) (fun v9 J_ Q h => ?_) (fun v10 h => ?_)
      · conv => whnf
        exact ⟨rfl, rfl, rfl, rfl, rfl⟩
      · conv => whnf
        refine ASeq.go tab_ok mixed_ ?_
        conv => whnf
        refine XSplit.mk (fun e => ?_) (fun e => ?_)
        · replace h := XSplit.t h e
          conv => whnf
          refine ASeq.go tab_ok mixed_ ?_
          conv => whnf
          refine XNeed.mk (XNeed.c h) ?_; replace h := XNeed.x h
          conv => whnf
          refine XNeed.mk (XNeed.c h) ?_; replace h := XNeed.x h
          conv => whnf
          refine ⟨_, Weak.a ?_, h⟩; (conv => whnf); exact ⟨rfl, rfl, rfl, rfl, rfl⟩
        · replace h := XSplit.f h e
          conv => whnf
          refine ⟨_, ?_, Weak.a ?_, h⟩; exact rfl; (conv => whnf); exact ⟨rfl, rfl, rfl, rfl, rfl⟩
      · conv => whnf
        refine ASeq.joinW tab_ok mixed_ (fun v11 => ⟨[(8, .nils), (9, .int .i64 (0)), (10, .int .i64 (0)), (13, .int .i64 (v11.fst)), (14, .own 0)], [(0, .arr true 178 (false) (v11.snd))], 1, [], []⟩) h (fun Q h => ?_) (fun v11 h => ?_)
        · conv => whnf
          refine XSplit.mk (fun e => ?_) (fun e => ?_)
          · replace h := XSplit.t h e
            conv => whnf
            refine XNeed.mk (XNeed.c h) ?_; replace h := XNeed.x h
            conv => whnf
            refine XNeed.mk (XNeed.c h) ?_; replace h := XNeed.x h
            conv => whnf
            refine ALoop.ofW tab_ok mixed_ (fun v12 => ⟨[(8, .nils), (9, .int .i64 (0)), (10, .int .i64 (0)), (13, .int .i64 (IntKind.i64.wrap (ri v7.snd.snd.snd.snd.snd.snd.snd.snd.snd.snd.snd.snd.snd.snd.snd.fst (IntKind.i64.wrap (a9 - 1)).toNat 0))), (14, .own 0), (95, .sl (v7.snd.snd.snd.snd.snd.snd.snd.snd.snd.snd.snd.snd.fst) 48 (List.take (IntKind.i64.wrap (a9 * v7.snd.snd.snd.snd.snd.snd.snd.snd.snd.snd.snd.snd.snd.snd.snd.snd.snd.snd.snd.snd.snd.snd.snd.snd.snd.snd.snd.snd.snd.snd.fst) - IntKind.i64.wrap (IntKind.i64.wrap (a9 - 1) * v7.snd.snd.snd.snd.snd.snd.snd.snd.snd.snd.snd.snd.snd.snd.snd.snd.snd.snd.snd.snd.snd.snd.snd.snd.snd.snd.snd.snd.snd.snd.fst)).toNat (List.drop (IntKind.i64.wrap (IntKind.i64.wrap (a9 - 1) * v7.snd.snd.snd.snd.snd.snd.snd.snd.snd.snd.snd.snd.snd.snd.snd.snd.snd.snd.snd.snd.snd.snd.snd.snd.snd.snd.snd.snd.snd.snd.fst)).toNat v7.snd.snd.snd.snd.snd.snd.snd.snd.snd.snd.snd.snd.snd.fst))), (96, .int .i64 ((↑(List.take (IntKind.i64.wrap (a9 * v7.snd.snd.snd.snd.snd.snd.snd.snd.snd.snd.snd.snd.snd.snd.snd.snd.snd.snd.snd.snd.snd.snd.snd.snd.snd.snd.snd.snd.snd.snd.fst) - IntKind.i64.wrap (IntKind.i64.wrap (a9 - 1) * v7.snd.snd.snd.snd.snd.snd.snd.snd.snd.snd.snd.snd.snd.snd.snd.snd.snd.snd.snd.snd.snd.snd.snd.snd.snd.snd.snd.snd.snd.snd.fst)).toNat (List.drop (IntKind.i64.wrap (IntKind.i64.wrap (a9 - 1) * v7.snd.snd.snd.snd.snd.snd.snd.snd.snd.snd.snd.snd.snd.snd.snd.snd.snd.snd.snd.snd.snd.snd.snd.snd.snd.snd.snd.snd.snd.snd.fst)).toNat v7.snd.snd.snd.snd.snd.snd.snd.snd.snd.snd.snd.snd.snd.fst)).length : Int))), (97, .int .i64 (v12.fst))], [(0, .arr true 178 (false) (v12.snd))], 1, [], []⟩) (fun v13 => (.exit 2, ⟨[(8, .nils), (9, .int .i64 (0)), (10, .int .i64 (0)), (13, .int .i64 (IntKind.i64.wrap (ri v7.snd.snd.snd.snd.snd.snd.snd.snd.snd.snd.snd.snd.snd.snd.snd.fst (IntKind.i64.wrap (a9 - 1)).toNat 0))), (14, .own 0)], [(0, .arr true 178 (false) (v13))], 1, [], []⟩)) (W.bindE h) (Weak.a ?_) (fun v12 J_ Q h => ?_) (fun v13 h => ?_)
            · conv => whnf
              exact ⟨rfl, rfl, rfl, rfl, rfl⟩
            · conv => whnf
              refine ASeq.go tab_ok mixed_ ?_
              conv => whnf
              refine XSplit.mk (fun e => ?_) (fun e => ?_)
              · replace h := XSplit.t h e
                conv => whnf
                refine ASeq.go tab_ok mixed_ ?_
                conv => whnf
                refine XNeed.mk (XNeed.c h) ?_; replace h := XNeed.x h
                conv => whnf
                refine XNeed.mk (XNeed.c h) ?_; replace h := XNeed.x h
                conv => whnf
                refine ⟨_, Weak.a ?_, h⟩; (conv => whnf); exact ⟨rfl, rfl, rfl, rfl, rfl⟩
              · replace h := XSplit.f h e
                conv => whnf
                refine ⟨_, ?_, Weak.a ?_, h⟩; exact rfl; (conv => whnf); exact ⟨rfl, rfl, rfl, rfl, rfl⟩
            · conv => whnf
              refine ⟨_, Weak.a ?_, h⟩; (conv => whnf); exact ⟨rfl, rfl, rfl, rfl, rfl⟩
          · replace h := XSplit.f h e
            conv => whnf
            refine ⟨_, Weak.a ?_, h⟩; (conv => whnf); exact ⟨rfl, rfl, rfl, rfl, rfl⟩
        · conv => whnf
          refine ⟨_, Weak.a ?_, ?_, h⟩; (conv => whnf); exact ⟨rfl, rfl, rfl, rfl, rfl⟩; exact rfl
theorem c_plain_sum {a0 : Int} {a1 : Bool} {a2 : Rws} {a3 : Bool} {a4 : Rws} {a5 : Int} {Q : Int → Prop} {R : AV → List AB → Prop} (h : (g_plain_sum a0 a1 a2 a3 a4 a5).run Q) (k : ∀ r, Q r → R (.int .i64 (r)) ([])) : ACalls Try.prog tab 91 [.int .i64 (a0), .sl (a1) 178 (a2), .sl (a3) 81 (a4), .int .i64 (a5)] [] R := by
  refine ACalls.out (fun r => .int .i64 (r)) (fun r => []) (Q := Q) (ACalls.introX (mv := mv) tab_ok mixed_ (fn := Try.f91) (by kernel_rfl) rfl (by kernel_rfl) (by kernel_rfl) (leB rfl) ?_) (fun v => by first | exact ⟨rfl, leB rfl⟩ | (cases v <;> exact ⟨rfl, leB rfl⟩)) k
  conv => whnf
  refine ASeq.go tab_ok mixed_ ?_
  conv => whnf
  refine ALoop.ofW tab_ok mixed_ (fun v3 => ⟨[(0, .int .i64 (v3.fst)), (2, .sl (a3) 81 (a4)), (3, .int .i64 (a5)), (8, .int .i64 (0)), (12, .sl (a1) 178 (a2)), (13, .int .i64 ((↑(List.length a2) : Int))), (14, .int .i64 (v3.snd))], [], 0, [], []⟩) (fun v4 => (.exit 0, ⟨[(0, .int .i64 (v4)), (8, .int .i64 (0))], [], 0, [], []⟩)) (W.bindE h) (Weak.a ?_) (fun v3 J_ Q h => ?_) (fun v4 h => ?_)
  · conv => whnf
    exact ⟨rfl, rfl, rfl, rfl, rfl⟩
  · conv => whnf
    refine ASeq.go tab_ok mixed_ ?_
    conv => whnf
    refine XSplit.mk (fun e => ?_) (fun e => ?_)
    · replace h := XSplit.t h e
      conv => whnf
      refine ASeq.go tab_ok mixed_ ?_
      conv => whnf
      refine XNeed.mk (XNeed.c h) ?_; replace h := XNeed.x h
      conv => whnf
      refine ASeq.joinW tab_ok mixed_ (fun v5 => ⟨[(0, .int .i64 (v3.fst)), (2, .sl (a3) 81 (a4)), (3, .int .i64 (a5)), (8, .int .i64 (0)), (10, .ptr 0 0), (11, .int .i64 (v5)), (12, .sl (a1) 178 (a2)), (13, .int .i64 ((↑(List.length a2) : Int))), (14, .int .i64 (v3.snd)), (15, .bool (decide (v3.snd < (↑(List.length a2) : Int)))), (16, .rel 178 (a2) (v3.snd.toNat) 0), (17, .agg [.int .i64 (ri a2 v3.snd.toNat 0), .int .i64 (ri a2 v3.snd.toNat 1)]), (18, .int .i64 (a5)), (19, .ptr 0 1), (20, .int .i64 (ri a2 v3.snd.toNat 1)), (21, .bool (decide (0 ≤ ri a2 v3.snd.toNat 1)))], [(0, .box 178 [.int .i64 (ri a2 v3.snd.toNat 0), .int .i64 (ri a2 v3.snd.toNat 1)])], 1, [], []⟩) h (fun Q h => ?_) (fun v5 h => ?_)
      · conv => whnf
        refine XSplit.mk (fun e => ?_) (fun e => ?_)
        · replace h := XSplit.t h e
          conv => whnf
          refine XNeed.mk (XNeed.c h) ?_; replace h := XNeed.x h
          conv => whnf
          refine ⟨_, Weak.a ?_, h⟩; (conv => whnf); exact ⟨rfl, rfl, rfl, rfl, rfl⟩
        · replace h := XSplit.f h e
          conv => whnf
          refine ⟨_, Weak.a ?_, h⟩; (conv => whnf); exact ⟨rfl, rfl, rfl, rfl, rfl⟩
      · conv => whnf
        refine ⟨_, Weak.a ?_, h⟩; (conv => whnf); exact ⟨rfl, rfl, rfl, rfl, rfl⟩
    · replace h := XSplit.f h e
      conv => whnf
      refine ⟨_, ?_, Weak.a ?_, h⟩; exact rfl; (conv => whnf); exact ⟨rfl, rfl, rfl, rfl, rfl⟩
  · conv => whnf
    refine ⟨_, Weak.a ?_, ?_, h⟩; (conv => whnf); exact ⟨rfl, rfl, rfl, rfl, rfl⟩; exact rfl
theorem c_plain_sums {a0 : Int} {a1 : Int} {a2 : Int} {a3 : Int} {a4 : Int} {a5 : Bool} {a6 : Rws} {a7 : Int} {a8 : Int} {a9 : Bool} {a10 : Rws} {Q : Bool × Rws → Prop} {R : AV → List AB → Prop} (h : (g_plain_sums a0 a1 a2 a3 a4 a5 a6 a7 a8 a9 a10).run Q) (k : ∀ r, Q r → R (.own 0) ([.arr true 2 (r.fst) (r.snd)])) : ACalls Try.prog tab 64 [.agg [.int .i64 (a0), .int .i64 (a1), .int .i64 (a2), .int .i64 (a3), .int .i64 (a4), .sl (a5) 47 (a6), .int .i64 (a7)], .int .i64 (a8), .sl (a9) 81 (a10)] [] R := by
  refine ACalls.out (fun r => .own 0) (fun r => [.arr true 2 (r.fst) (r.snd)]) (Q := Q) (ACalls.introX (mv := mv) tab_ok mixed_ (fn := Try.f64) (by kernel_rfl) rfl (by kernel_rfl) (by kernel_rfl) (leB rfl) ?_) (fun v => by first | exact ⟨rfl, leB rfl⟩ | (cases v <;> exact ⟨rfl, leB rfl⟩)) k
  conv => whnf
  refine ACalls.inn (c_terms_Channels (W.bindE h) (fun v8 h => ?_)) ⟨rfl, rfl⟩
  conv => whnf
  refine ACalls.inn (c_terms_Positions (W.bindE h) (fun v9 h => ?_)) ⟨rfl, rfl⟩
  conv => whnf
  refine XNeed.mk (XNeed.c h) ?_; replace h := XNeed.x h
  conv => whnf
  refine ASeq.go tab_ok mixed_ ?_
  conv => whnf
  refine ALoop.ofW tab_ok mixed_ (fun v10 => ⟨[(1, .int .i64 (a8)), (2, .sl (a9) 81 (a10)), (3, .ptr 0 0), (6, .nils), (7, .int .i64 (v8.fst)), (11, .own 1), (33, .int .i64 (v9.fst)), (34, .int .i64 (v10.fst))], [(0, .box 26 [.int .i64 (a0), .int .i64 (a1), .int .i64 (a2), .int .i64 (a3), .int .i64 (a4), .sl (a5) 47 (a6), .int .i64 (a7)]), (1, .arr true 2 (false) (v10.snd))], 2, [], []⟩) (fun v11 => (.exit 0, ⟨[(6, .nils), (11, .own 0)], [(0, .arr true 2 (false) (v11))], 1, [], []⟩)) (W.bindE h) (Weak.a ?_) (fun v10 J_ Q h => ?_) (fun v11 h => ?_)
  · conv => whnf
    exact ⟨rfl, rfl, rfl, rfl, rfl⟩
  · conv => whnf
    refine ASeq.go tab_ok mixed_ ?_
    conv => whnf
    refine XSplit.mk (fun e => ?_) (fun e => ?_)
    · replace h := XSplit.t h e
      conv => whnf
      refine ASeq.go tab_ok mixed_ ?_
      conv => whnf
      refine ALoop.ofW tab_ok mixed_ (fun v12 => ⟨[(1, .int .i64 (a8)), (2, .sl (a9) 81 (a10)), (3, .ptr 0 0), (6, .nils), (7, .int .i64 (v8.fst)), (11, .own 1), (12, .int .i64 (v10.fst)), (33, .int .i64 (v9.fst)), (34, .int .i64 (v10.fst)), (35, .bool (decide (v10.fst < v9.fst))), (36, .int .i64 (v10.fst)), (37, .int .i64 (v8.fst)), (38, .int .i64 (v12.fst))], [(0, .box 26 [.int .i64 (a0), .int .i64 (a1), .int .i64 (a2), .int .i64 (a3), .int .i64 (a4), .sl (a5) 47 (a6), .int .i64 (a7)]), (1, .arr true 2 (false) (v12.snd))], 2, [], []⟩) (fun v13 => (.exit 2, ⟨[(1, .int .i64 (a8)), (2, .sl (a9) 81 (a10)), (3, .ptr 0 0), (6, .nils), (7, .int .i64 (v8.fst)), (11, .own 1), (12, .int .i64 (v10.fst)), (33, .int .i64 (v9.fst)), (34, .int .i64 (v10.fst)), (35, .bool (decide (v10.fst < v9.fst))), (36, .int .i64 (v10.fst)), (37, .int .i64 (v8.fst)), (38, .int .i64 (v13.fst)), (39, .bool (v13.snd.fst))], [(0, .box 26 [.int .i64 (a0), .int .i64 (a1), .int .i64 (a2), .int .i64 (a3), .int .i64 (a4), .sl (a5) 47 (a6), .int .i64 (a7)]), (1, .arr true 2 (false) (v13.snd.snd))], 2, [], []⟩)) (W.bindE h) (Weak.a ?_) (fun v12 J_ Q h => ?_) (fun v13 h => ?_)
      · conv => whnf
        exact ⟨rfl, rfl, rfl, rfl, rfl⟩
      · conv => whnf
        refine ASeq.go tab_ok mixed_ ?_
        conv => whnf
        refine XSplit.mk (fun e => ?_) (fun e => ?_)
        · replace h := XSplit.t h e
          conv => whnf
          refine ASeq.go tab_ok mixed_ ?_
          conv => whnf
          refine ACalls.inn (c_terms_Of (W.bindE h) (fun v14 h => ?_)) ⟨rfl, rfl⟩
          conv => whnf
          refine XNeed.mk (XNeed.c h) ?_; replace h := XNeed.x h
          conv => whnf
          refine ACalls.inn (c_plain_sum (W.bindE h) (fun v15 h => ?_)) ⟨rfl, rfl⟩
          conv => whnf
          refine XNeed.mk (XNeed.c h) ?_; replace h := XNeed.x h
          conv => whnf
          refine ⟨_, Weak.a ?_, h⟩; (conv => whnf); exact ⟨rfl, rfl, rfl, rfl, rfl⟩
        · replace h := XSplit.f h e
          conv => whnf
          refine ⟨_, ?_, Weak.a ?_, h⟩; exact rfl; (conv => whnf); exact ⟨rfl, rfl, rfl, rfl, rfl⟩
      · conv => whnf
        refine ⟨_, Weak.a ?_, h⟩; (conv => whnf); exact ⟨rfl, rfl, rfl, rfl, rfl⟩
    · replace h := XSplit.f h e
      conv => whnf
      refine ⟨_, ?_, Weak.a ?_, h⟩; exact rfl; (conv => whnf); exact ⟨rfl, rfl, rfl, rfl, rfl⟩
  · conv => whnf
    refine ⟨_, Weak.a ?_, ?_, h⟩; (conv => whnf); exact ⟨rfl, rfl, rfl, rfl, rfl⟩; exact rfl
theorem c_fixq_magnitude {a0 : Int} {Q : Int × Bool → Prop} {R : AV → List AB → Prop} (h : (g_fixq_magnitude a0).run Q) (k : ∀ r, Q r → R (.tup [.int .u64 (r.fst), .bool (r.snd)]) ([])) : ACalls Try.prog tab 92 [.int .i64 (a0)] [] R := by
  refine ACalls.out (fun r => .tup [.int .u64 (r.fst), .bool (r.snd)]) (fun r => []) (Q := Q) (ACalls.introX (mv := mv) tab_ok mixed_ (fn := Try.f92) (by kernel_rfl) rfl (by kernel_rfl) (by kernel_rfl) (leB rfl) ?_) (fun v => by first | exact ⟨rfl, leB rfl⟩ | (cases v <;> exact ⟨rfl, leB rfl⟩)) k
  conv => whnf
  refine ASeq.go tab_ok mixed_ ?_
  conv => whnf
  refine XSplit.mk (fun e => ?_) (fun e => ?_)
  · replace h := XSplit.t h e
    conv => whnf
    refine ⟨_, Weak.a ?_, ?_, h⟩; (conv => whnf); exact ⟨rfl, rfl, rfl, rfl, rfl⟩; exact rfl
  · replace h := XSplit.f h e
    conv => whnf
    refine ⟨_, Weak.a ?_, ?_, h⟩; (conv => whnf); exact ⟨rfl, rfl, rfl, rfl, rfl⟩; exact rfl
theorem c_fixq_signed {a0 : Int} {a1 : Bool} {Q : Int → Prop} {R : AV → List AB → Prop} (h : (g_fixq_signed a0 a1).run Q) (k : ∀ r, Q r → R (.int .i64 (r)) ([])) : ACalls Try.prog tab 94 [.int .u64 (a0), .bool (a1)] [] R := by
  refine ACalls.out (fun r => .int .i64 (r)) (fun r => []) (Q := Q) (ACalls.introX (mv := mv) tab_ok mixed_ (fn := Try.f94) (by kernel_rfl) rfl (by kernel_rfl) (by kernel_rfl) (leB rfl) ?_) (fun v => by first | exact ⟨rfl, leB rfl⟩ | (cases v <;> exact ⟨rfl, leB rfl⟩)) k
  conv => whnf
  refine ASeq.go tab_ok mixed_ ?_
  conv => whnf
  refine XSplit.mk (fun e => ?_) (fun e => ?_)
  · replace h := XSplit.t h e
    conv => whnf
    refine ⟨_, Weak.a ?_, ?_, h⟩; (conv => whnf); exact ⟨rfl, rfl, rfl, rfl, rfl⟩; exact rfl
  · replace h := XSplit.f h e
    conv => whnf
    refine ⟨_, Weak.a ?_, ?_, h⟩; (conv => whnf); exact ⟨rfl, rfl, rfl, rfl, rfl⟩; exact rfl
theorem c_fixq_Shift {a0 : Int} {a1 : Int} {Q : Int × Int → Prop} {R : AV → List AB → Prop} (h : (g_fixq_Shift a0 a1).run Q) (k : ∀ r, Q r → R (.tup [.int .i64 (r.fst), .int .i64 (r.snd)]) ([])) : ACalls Try.prog tab 93 [.int .i64 (a0), .int .i64 (a1)] [] R := by
  refine ACalls.out (fun r => .tup [.int .i64 (r.fst), .int .i64 (r.snd)]) (fun r => []) (Q := Q) (ACalls.introX (mv := mv) tab_ok mixed_ (fn := Try.f93) (by kernel_rfl) rfl (by kernel_rfl) (by kernel_rfl) (leB rfl) ?_) (fun v => by first | exact ⟨rfl, leB rfl⟩ | (cases v <;> exact ⟨rfl, leB rfl⟩)) k
  conv => whnf
  refine ASeq.go tab_ok mixed_ ?_
  conv => whnf
  refine XSplit.mk (fun e => ?_) (fun e => ?_)
  · replace h := XSplit.t h e
    conv => whnf
    refine ⟨_, Weak.a ?_, ?_, h⟩; (conv => whnf); exact ⟨rfl, rfl, rfl, rfl, rfl⟩; exact rfl
  · replace h := XSplit.f h e
    conv => whnf
    refine ACalls.inn (c_fixq_magnitude (W.bindE h) (fun v3 h => ?_)) ⟨rfl, rfl⟩
    conv => whnf
    refine XNeed.mk (XNeed.c h) ?_; replace h := XNeed.x h
    conv => whnf
    refine ASeq.joinW tab_ok mixed_ (fun v4 => ⟨[(4, .int .i64 (0)), (5, .int .i64 (0)), (7, .bool (v3.snd)), (8, .int .u64 (v4))], [], 0, [], []⟩) h (fun Q h => ?_) (fun v4 h => ?_)
    · conv => whnf
      refine XSplit.mk (fun e => ?_) (fun e => ?_)
      · replace h := XSplit.t h e
        conv => whnf
        refine XNeed.mk (XNeed.c h) ?_; replace h := XNeed.x h
        conv => whnf
        refine ⟨_, Weak.a ?_, h⟩; (conv => whnf); exact ⟨rfl, rfl, rfl, rfl, rfl⟩
      · replace h := XSplit.f h e
        conv => whnf
        refine ⟨_, Weak.a ?_, h⟩; (conv => whnf); exact ⟨rfl, rfl, rfl, rfl, rfl⟩
    · conv => whnf
      refine ACalls.inn (c_fixq_signed (W.bindE h) (fun v5 h => ?_)) ⟨rfl, rfl⟩
      conv => whnf
      refine ⟨_, Weak.a ?_, ?_, h⟩; (conv => whnf); exact ⟨rfl, rfl, rfl, rfl, rfl⟩; exact rfl
theorem c_fixq_Apply {a0 : Int} {a1 : Int} {a2 : Int} {Q : Int × Int → Prop} {R : AV → List AB → Prop} (h : (g_fixq_Apply a0 a1 a2).run Q) (k : ∀ r, Q r → R (.tup [.int .i64 (r.fst), .int .i64 (r.snd)]) ([])) : ACalls Try.prog tab 65 [.int .i64 (a0), .agg [.int .i64 (a1), .int .i64 (a2)]] [] R := by
  refine ACalls.out (fun r => .tup [.int .i64 (r.fst), .int .i64 (r.snd)]) (fun r => []) (Q := Q) (ACalls.introX (mv := mv) tab_ok mixed_ (fn := Try.f65) (by kernel_rfl) rfl (by kernel_rfl) (by kernel_rfl) (leB rfl) ?_) (fun v => by first | exact ⟨rfl, leB rfl⟩ | (cases v <;> exact ⟨rfl, leB rfl⟩)) k
  conv => whnf
  refine ASeq.go tab_ok mixed_ ?_
  conv => whnf
  refine ACalls.inn (c_fixq_Valid (W.bindE h) (fun v4 h => ?_)) ⟨rfl, rfl⟩
  conv => whnf
  refine XSplit.mk (fun e => ?_) (fun e => ?_)
  · replace h := XSplit.t h e
    conv => whnf
    refine ⟨_, Weak.a ?_, ?_, h⟩; (conv => whnf); exact ⟨rfl, rfl, rfl, rfl, rfl⟩; exact rfl
  · replace h := XSplit.f h e
    conv => whnf
    refine ACalls.inn (c_fixq_magnitude (W.bindE h) (fun v5 h => ?_)) ⟨rfl, rfl⟩
    conv => whnf
    refine ASeq.go tab_ok mixed_ ?_
    conv => whnf
    refine XSplit.mk (fun e => ?_) (fun e => ?_)
    · replace h := XSplit.t h e
      conv => whnf
      refine ⟨_, Weak.a ?_, ?_, h⟩; (conv => whnf); exact ⟨rfl, rfl, rfl, rfl, rfl⟩; exact rfl
    · replace h := XSplit.f h e
      conv => whnf
      refine ACalls.inn (c_fixq_Shift (W.bindE h) (fun v6 h => ?_)) ⟨rfl, rfl⟩
      conv => whnf
      refine ACalls.inn (c_fixq_signed (W.bindE h) (fun v7 h => ?_)) ⟨rfl, rfl⟩
      conv => whnf
      refine ⟨_, Weak.a ?_, ?_, h⟩; (conv => whnf); exact ⟨rfl, rfl, rfl, rfl, rfl⟩; exact rfl
theorem c_math_bits_Mul64 {a0 : Int} {a1 : Int} {Q : Int × Int → Prop} {R : AV → List AB → Prop} (h : (g_math_bits_Mul64 a0 a1).run Q) (k : ∀ r, Q r → R (.tup [.int .u64 (r.fst), .int .u64 (r.snd)]) ([])) : ACalls Try.prog tab 95 [.int .u64 (a0), .int .u64 (a1)] [] R := by
  refine ACalls.out (fun r => .tup [.int .u64 (r.fst), .int .u64 (r.snd)]) (fun r => []) (Q := Q) (ACalls.introX (mv := mv) tab_ok mixed_ (fn := Try.f95) (by kernel_rfl) rfl (by kernel_rfl) (by kernel_rfl) (leB rfl) ?_) (fun v => by first | exact ⟨rfl, leB rfl⟩ | (cases v <;> exact ⟨rfl, leB rfl⟩)) k
  conv => whnf
  refine XNeed.mk (of_decide_eq_true rfl) ?_
  conv => whnf
  refine XNeed.mk (of_decide_eq_true rfl) ?_
  conv => whnf
  refine XNeed.mk (of_decide_eq_true rfl) ?_
  conv => whnf
  refine XNeed.mk (of_decide_eq_true rfl) ?_
  conv => whnf
  refine XNeed.mk (of_decide_eq_true rfl) ?_
  conv => whnf
  refine ⟨_, Weak.a ?_, ?_, h⟩; (conv => whnf); exact ⟨rfl, rfl, rfl, rfl, rfl⟩; exact rfl
theorem c_math_bits_Add64 {a0 a1 a2 : Int} {Q : Int × Int → Prop} {R : AV → List AB → Prop} (h : (g_math_bits_Add64 a0 a1 a2).run Q) (k : ∀ r, Q r → R (.tup [.int .u64 r.1, .int .u64 r.2]) []) : ACalls Try.prog tab 96 [.int .u64 a0, .int .u64 a1, .int .u64 a2] [] R := ACalls.add64 (fn := Try.f96) (by kernel_rfl) (by kernel_rfl) (by kernel_rfl) (by kernel_rfl) (by kernel_rfl) h k
theorem c_math_bits_Len64 {a0 : Int} {Q : Int → Prop} {R : AV → List AB → Prop} (h : (g_math_bits_Len64 a0).run Q) (k : ∀ r, Q r → R (.int .i64 (r)) ([])) : ACalls Try.prog tab 126 [.int .u64 (a0)] [] R := by
  refine ACalls.out (fun r => .int .i64 (r)) (fun r => []) (Q := Q) (ACalls.introX (mv := mv) tab_ok mixed_ (fn := Try.f126) (by kernel_rfl) rfl (by kernel_rfl) (by kernel_rfl) (leB rfl) ?_) (fun v => by first | exact ⟨rfl, leB rfl⟩ | (cases v <;> exact ⟨rfl, leB rfl⟩)) k
  conv => whnf
  refine ASeq.joinW tab_ok mixed_ (fun v3 => ⟨[(0, .int .u64 (v3.fst)), (2, .int .i64 (v3.snd))], [], 0, [], []⟩) h (fun Q h => ?_) (fun v3 h => ?_)
  · conv => whnf
    refine XSplit.mk (fun e => ?_) (fun e => ?_)
    · replace h := XSplit.t h e
      conv => whnf
      refine XNeed.mk (of_decide_eq_true rfl) ?_
      conv => whnf
      refine ⟨_, Weak.a ?_, h⟩; (conv => whnf); exact ⟨rfl, rfl, rfl, rfl, rfl⟩
    · replace h := XSplit.f h e
      conv => whnf
      refine ⟨_, Weak.a ?_, h⟩; (conv => whnf); exact ⟨rfl, rfl, rfl, rfl, rfl⟩
  · conv => whnf
    refine ASeq.joinW tab_ok mixed_ (fun v4 => ⟨[(0, .int .u64 (v4.fst)), (2, .int .i64 (v4.snd))], [], 0, [], []⟩) h (fun Q h => ?_) (fun v4 h => ?_)
    · conv => whnf
      refine XSplit.mk (fun e => ?_) (fun e => ?_)
      · replace h := XSplit.t h e
        conv => whnf
        refine XNeed.mk (of_decide_eq_true rfl) ?_
        conv => whnf
        refine ⟨_, Weak.a ?_, h⟩; (conv => whnf); exact ⟨rfl, rfl, rfl, rfl, rfl⟩
      · replace h := XSplit.f h e
        conv => whnf
        refine ⟨_, Weak.a ?_, h⟩; (conv => whnf); exact ⟨rfl, rfl, rfl, rfl, rfl⟩
    · conv => whnf
      refine ASeq.joinW tab_ok mixed_ (fun v5 => ⟨[(0, .int .u64 (v5.fst)), (2, .int .i64 (v5.snd))], [], 0, [], []⟩) h (fun Q h => ?_) (fun v5 h => ?_)
      · conv => whnf
        refine XSplit.mk (fun e => ?_) (fun e => ?_)
        · replace h := XSplit.t h e
          conv => whnf
          refine XNeed.mk (of_decide_eq_true rfl) ?_
          conv => whnf
          refine ⟨_, Weak.a ?_, h⟩; (conv => whnf); exact ⟨rfl, rfl, rfl, rfl, rfl⟩
        · replace h := XSplit.f h e
          conv => whnf
          refine ⟨_, Weak.a ?_, h⟩; (conv => whnf); exact ⟨rfl, rfl, rfl, rfl, rfl⟩
      · conv => whnf
        refine XNeed.mk (XNeed.c h) ?_; replace h := XNeed.x h
        conv => whnf
        refine ⟨_, Weak.a ?_, ?_, h⟩; (conv => whnf); exact ⟨rfl, rfl, rfl, rfl, rfl⟩; exact rfl
theorem c_math_bits_LeadingZeros64 {a0 : Int} {Q : Int → Prop} {R : AV → List AB → Prop} (h : (g_math_bits_LeadingZeros64 a0).run Q) (k : ∀ r, Q r → R (.int .i64 (r)) ([])) : ACalls Try.prog tab 115 [.int .u64 (a0)] [] R := by
  refine ACalls.out (fun r => .int .i64 (r)) (fun r => []) (Q := Q) (ACalls.introX (mv := mv) tab_ok mixed_ (fn := Try.f115) (by kernel_rfl) rfl (by kernel_rfl) (by kernel_rfl) (leB rfl) ?_) (fun v => by first | exact ⟨rfl, leB rfl⟩ | (cases v <;> exact ⟨rfl, leB rfl⟩)) k
  conv => whnf
  refine ACalls.inn (c_math_bits_Len64 (W.bindE h) (fun v1 h => ?_)) ⟨rfl, rfl⟩
  conv => whnf
  refine ⟨_, Weak.a ?_, ?_, h⟩; (conv => whnf); exact ⟨rfl, rfl, rfl, rfl, rfl⟩; exact rfl
theorem c_math_bits_Div64 {a0 : Int} {a1 : Int} {a2 : Int} {Q : Int × Int → Prop} {R : AV → List AB → Prop} (h : (g_math_bits_Div64 a0 a1 a2).run Q) (k : ∀ r, Q r → R (.tup [.int .u64 (r.fst), .int .u64 (r.snd)]) ([])) : ACalls Try.prog tab 97 [.int .u64 (a0), .int .u64 (a1), .int .u64 (a2)] [] R := by
  refine ACalls.out (fun r => .tup [.int .u64 (r.fst), .int .u64 (r.snd)]) (fun r => []) (Q := Q) (ACalls.introX (mv := mv) tab_ok mixed_ (fn := Try.f97) (by kernel_rfl) rfl (by kernel_rfl) (by kernel_rfl) (leB rfl) ?_) (fun v => by first | exact ⟨rfl, leB rfl⟩ | (cases v <;> exact ⟨rfl, leB rfl⟩)) k
  conv => whnf
  refine ASeq.go tab_ok mixed_ ?_
  conv => whnf
  refine XSplit.mk (fun e => ?_) (fun e => ?_)
  · replace h := XSplit.t h e
    conv => whnf
    refine XNeed.mk (XNeed.c h) ?_; replace h := XNeed.x h
    conv => whnf
    refine XNeed.mk (XNeed.c h) ?_; replace h := XNeed.x h
    conv => whnf
    exact trivial
  · replace h := XSplit.f h e
    conv => whnf
    refine ASeq.go tab_ok mixed_ ?_
    conv => whnf
    refine XSplit.mk (fun e => ?_) (fun e => ?_)
    · replace h := XSplit.t h e
      conv => whnf
      refine XNeed.mk (XNeed.c h) ?_; replace h := XNeed.x h
      conv => whnf
      refine XNeed.mk (XNeed.c h) ?_; replace h := XNeed.x h
      conv => whnf
      exact trivial
    · replace h := XSplit.f h e
      conv => whnf
      refine ASeq.go tab_ok mixed_ ?_
      conv => whnf
      refine XSplit.mk (fun e => ?_) (fun e => ?_)
      · replace h := XSplit.t h e
        conv => whnf
        refine XDraw.q [0, 1, 2, 3, 4, 5, 6, 7] (by decide +kernel) ?_
        conv => whnf
        refine XNeed.mk (XNeed.c h) ?_; replace h := XNeed.x h
        conv => whnf
        refine XNeed.mk (XNeed.c h) ?_; replace h := XNeed.x h
        conv => whnf
        refine ⟨_, Weak.a ?_, ?_, h⟩; (conv => whnf); exact ⟨rfl, rfl, rfl, rfl, rfl⟩; exact rfl
      · replace h := XSplit.f h e
        conv => whnf
        refine ACalls.inn (c_math_bits_LeadingZeros64 (W.bindE h) (fun v5 h => ?_)) ⟨rfl, rfl⟩
        conv => whnf
        refine XNeed.mk (XNeed.c h) ?_; replace h := XNeed.x h
        conv => whnf
        refine XNeed.mk (of_decide_eq_true rfl) ?_
        conv => whnf
        refine XNeed.mk (XNeed.c h) ?_; replace h := XNeed.x h
        conv => whnf
        refine XNeed.mk (XNeed.c h) ?_; replace h := XNeed.x h
        conv => whnf
        refine XNeed.mk (XNeed.c h) ?_; replace h := XNeed.x h
        conv => whnf
        refine XNeed.mk (of_decide_eq_true rfl) ?_
        conv => whnf
        refine XNeed.mk (XNeed.c h) ?_; replace h := XNeed.x h
        conv => whnf
        refine ASeq.go tab_ok mixed_ ?_
        conv => whnf
        refine ALoop.ofW tab_ok mixed_ (fun v6 => ⟨[(2, .int .u64 (IntKind.u64.wrap (a2 * 2 ^ min (IntKind.u64.wrap v5).toNat 64))), (6, .int .u64 (0)), (7, .int .u64 (0)), (8, .int .u64 (IntKind.u64.wrap v5)), (9, .int .u64 ((IntKind.u64.wrap (a2 * 2 ^ min (IntKind.u64.wrap v5).toNat 64)).fdiv 4294967296)), (10, .int .u64 (ibits BinOp.and IntKind.u64 (IntKind.u64.wrap (a2 * 2 ^ min (IntKind.u64.wrap v5).toNat 64)) 4294967295)), (11, .int .u64 (ibits BinOp.or IntKind.u64 (IntKind.u64.wrap (a0 * 2 ^ min (IntKind.u64.wrap v5).toNat 64)) (a1.fdiv (2 ^ min (IntKind.u64.wrap (64 - IntKind.u64.wrap v5)).toNat 64)))), (13, .int .u64 ((IntKind.u64.wrap (a1 * 2 ^ min (IntKind.u64.wrap v5).toNat 64)).fdiv 4294967296)), (14, .int .u64 (ibits BinOp.and IntKind.u64 (IntKind.u64.wrap (a1 * 2 ^ min (IntKind.u64.wrap v5).toNat 64)) 4294967295)), (15, .int .u64 (v6.fst)), (16, .int .u64 (v6.snd))], [], 0, [], []⟩) (fun v7 => (.exit 0, ⟨[(2, .int .u64 (IntKind.u64.wrap (a2 * 2 ^ min (IntKind.u64.wrap v5).toNat 64))), (6, .int .u64 (0)), (7, .int .u64 (0)), (8, .int .u64 (IntKind.u64.wrap v5)), (9, .int .u64 ((IntKind.u64.wrap (a2 * 2 ^ min (IntKind.u64.wrap v5).toNat 64)).fdiv 4294967296)), (10, .int .u64 (ibits BinOp.and IntKind.u64 (IntKind.u64.wrap (a2 * 2 ^ min (IntKind.u64.wrap v5).toNat 64)) 4294967295)), (11, .int .u64 (ibits BinOp.or IntKind.u64 (IntKind.u64.wrap (a0 * 2 ^ min (IntKind.u64.wrap v5).toNat 64)) (a1.fdiv (2 ^ min (IntKind.u64.wrap (64 - IntKind.u64.wrap v5)).toNat 64)))), (13, .int .u64 ((IntKind.u64.wrap (a1 * 2 ^ min (IntKind.u64.wrap v5).toNat 64)).fdiv 4294967296)), (14, .int .u64 (ibits BinOp.and IntKind.u64 (IntKind.u64.wrap (a1 * 2 ^ min (IntKind.u64.wrap v5).toNat 64)) 4294967295)), (15, .int .u64 (v7.fst)), (16, .int .u64 (v7.snd))], [], 0, [], []⟩)) (W.bindE h) (Weak.a ?_) (fun v6 J_ Q h => ?_) (fun v7 h => ?_)
        · conv => whnf
          exact ⟨rfl, rfl, rfl, rfl, rfl⟩
        · conv => whnf
          refine ASeq.go tab_ok mixed_ ?_
          conv => whnf
          refine XSplit.mk (fun e => ?_) (fun e => ?_)
          · replace h := XSplit.t h e
            conv => whnf
            refine XSplit.mk (fun e => ?_) (fun e => ?_)
            · replace h := XSplit.t h e
              conv => whnf
              refine ⟨_, ?_, Weak.a ?_, h⟩; exact rfl; (conv => whnf); exact ⟨rfl, rfl, rfl, rfl, rfl⟩
            · replace h := XSplit.f h e
              conv => whnf
              refine ⟨_, Weak.a ?_, h⟩; (conv => whnf); exact ⟨rfl, rfl, rfl, rfl, rfl⟩
          · replace h := XSplit.f h e
            conv => whnf
            refine ⟨_, ?_, Weak.a ?_, h⟩; exact rfl; (conv => whnf); exact ⟨rfl, rfl, rfl, rfl, rfl⟩
        · conv => whnf
          refine XNeed.mk (XNeed.c h) ?_; replace h := XNeed.x h
          conv => whnf
          refine ASeq.go tab_ok mixed_ ?_
          conv => whnf
          refine ALoop.ofW tab_ok mixed_ (fun v8 => ⟨[(2, .int .u64 (IntKind.u64.wrap (a2 * 2 ^ min (IntKind.u64.wrap v5).toNat 64))), (6, .int .u64 (0)), (7, .int .u64 (0)), (8, .int .u64 (IntKind.u64.wrap v5)), (9, .int .u64 ((IntKind.u64.wrap (a2 * 2 ^ min (IntKind.u64.wrap v5).toNat 64)).fdiv 4294967296)), (10, .int .u64 (ibits BinOp.and IntKind.u64 (IntKind.u64.wrap (a2 * 2 ^ min (IntKind.u64.wrap v5).toNat 64)) 4294967295)), (14, .int .u64 (ibits BinOp.and IntKind.u64 (IntKind.u64.wrap (a1 * 2 ^ min (IntKind.u64.wrap v5).toNat 64)) 4294967295)), (15, .int .u64 (v7.fst)), (16, .int .u64 (v8.fst)), (17, .int .u64 (IntKind.u64.wrap (IntKind.u64.wrap (IntKind.u64.wrap (ibits BinOp.or IntKind.u64 (IntKind.u64.wrap (a0 * 2 ^ min (IntKind.u64.wrap v5).toNat 64)) (a1.fdiv (2 ^ min (IntKind.u64.wrap (64 - IntKind.u64.wrap v5)).toNat 64)) * 4294967296) + (IntKind.u64.wrap (a1 * 2 ^ min (IntKind.u64.wrap v5).toNat 64)).fdiv 4294967296) - IntKind.u64.wrap (v7.fst * IntKind.u64.wrap (a2 * 2 ^ min (IntKind.u64.wrap v5).toNat 64))))), (18, .int .u64 (v8.snd))], [], 0, [], []⟩) (fun v9 => (.exit 2, ⟨[(2, .int .u64 (IntKind.u64.wrap (a2 * 2 ^ min (IntKind.u64.wrap v5).toNat 64))), (6, .int .u64 (0)), (7, .int .u64 (0)), (8, .int .u64 (IntKind.u64.wrap v5)), (14, .int .u64 (ibits BinOp.and IntKind.u64 (IntKind.u64.wrap (a1 * 2 ^ min (IntKind.u64.wrap v5).toNat 64)) 4294967295)), (15, .int .u64 (v7.fst)), (17, .int .u64 (IntKind.u64.wrap (IntKind.u64.wrap (IntKind.u64.wrap (ibits BinOp.or IntKind.u64 (IntKind.u64.wrap (a0 * 2 ^ min (IntKind.u64.wrap v5).toNat 64)) (a1.fdiv (2 ^ min (IntKind.u64.wrap (64 - IntKind.u64.wrap v5)).toNat 64)) * 4294967296) + (IntKind.u64.wrap (a1 * 2 ^ min (IntKind.u64.wrap v5).toNat 64)).fdiv 4294967296) - IntKind.u64.wrap (v7.fst * IntKind.u64.wrap (a2 * 2 ^ min (IntKind.u64.wrap v5).toNat 64))))), (18, .int .u64 (v9))], [], 0, [], []⟩)) (W.bindE h) (Weak.a ?_) (fun v8 J_ Q h => ?_) (fun v9 h => ?_)
          · conv => whnf
            exact ⟨rfl, rfl, rfl, rfl, rfl⟩
          · conv => whnf
            refine ASeq.go tab_ok mixed_ ?_
            conv => whnf
            refine XSplit.mk (fun e => ?_) (fun e => ?_)
            · replace h := XSplit.t h e
              conv => whnf
              refine XSplit.mk (fun e => ?_) (fun e => ?_)
              · replace h := XSplit.t h e
                conv => whnf
                refine ⟨_, ?_, Weak.a ?_, h⟩; exact rfl; (conv => whnf); exact ⟨rfl, rfl, rfl, rfl, rfl⟩
              · replace h := XSplit.f h e
                conv => whnf
                refine ⟨_, Weak.a ?_, h⟩; (conv => whnf); exact ⟨rfl, rfl, rfl, rfl, rfl⟩
            · replace h := XSplit.f h e
              conv => whnf
              refine ⟨_, ?_, Weak.a ?_, h⟩; exact rfl; (conv => whnf); exact ⟨rfl, rfl, rfl, rfl, rfl⟩
          · conv => whnf
            refine XNeed.mk (XNeed.c h) ?_; replace h := XNeed.x h
            conv => whnf
            refine ⟨_, Weak.a ?_, ?_, h⟩; (conv => whnf); exact ⟨rfl, rfl, rfl, rfl, rfl⟩; exact rfl
theorem c_fixq_Mean {a0 : Int} {a1 : Int} {Q : Int × Int → Prop} {R : AV → List AB → Prop} (h : (g_fixq_Mean a0 a1).run Q) (k : ∀ r, Q r → R (.tup [.int .i64 (r.fst), .int .i64 (r.snd)]) ([])) : ACalls Try.prog tab 66 [.int .i64 (a0), .int .i64 (a1)] [] R := by
  refine ACalls.out (fun r => .tup [.int .i64 (r.fst), .int .i64 (r.snd)]) (fun r => []) (Q := Q) (ACalls.introX (mv := mv) tab_ok mixed_ (fn := Try.f66) (by kernel_rfl) rfl (by kernel_rfl) (by kernel_rfl) (leB rfl) ?_) (fun v => by first | exact ⟨rfl, leB rfl⟩ | (cases v <;> exact ⟨rfl, leB rfl⟩)) k
  conv => whnf
  refine ASeq.go tab_ok mixed_ ?_
  conv => whnf
  refine XSplit.mk (fun e => ?_) (fun e => ?_)
  · replace h := XSplit.t h e
    conv => whnf
    refine ⟨_, Weak.a ?_, ?_, h⟩; (conv => whnf); exact ⟨rfl, rfl, rfl, rfl, rfl⟩; exact rfl
  · replace h := XSplit.f h e
    conv => whnf
    refine ACalls.inn (c_fixq_magnitude (W.bindE h) (fun v6 h => ?_)) ⟨rfl, rfl⟩
    conv => whnf
    refine ACalls.inn (c_math_bits_Mul64 (W.bindE h) (fun v7 h => ?_)) ⟨rfl, rfl⟩
    conv => whnf
    refine ACalls.inn (c_math_bits_Add64 (W.bindE h) (fun v8 h => ?_)) ⟨rfl, rfl⟩
    conv => whnf
    refine XNeed.mk (XNeed.c h) ?_; replace h := XNeed.x h
    conv => whnf
    refine ACalls.inn (c_math_bits_Div64 (W.bindE h) (fun v9 h => ?_)) ⟨rfl, rfl⟩
    conv => whnf
    refine ASeq.go tab_ok mixed_ ?_
    conv => whnf
    refine XSplit.mk (fun e => ?_) (fun e => ?_)
    · replace h := XSplit.t h e
      conv => whnf
      refine ACalls.inn (c_fixq_signed (W.bindE h) (fun v10 h => ?_)) ⟨rfl, rfl⟩
      conv => whnf
      refine ⟨_, Weak.a ?_, ?_, h⟩; (conv => whnf); exact ⟨rfl, rfl, rfl, rfl, rfl⟩; exact rfl
    · replace h := XSplit.f h e
      conv => whnf
      refine XNeed.mk (of_decide_eq_true rfl) ?_
      conv => whnf
      refine ACalls.inn (c_fixq_signed (W.bindE h) (fun v11 h => ?_)) ⟨rfl, rfl⟩
      conv => whnf
      refine ⟨_, Weak.a ?_, ?_, h⟩; (conv => whnf); exact ⟨rfl, rfl, rfl, rfl, rfl⟩; exact rfl
theorem c_num_Fits_int8_ {a0 : Int} {Q : Bool → Prop} {R : AV → List AB → Prop} (h : (g_num_Fits_int8_ a0).run Q) (k : ∀ r, Q r → R (.bool (r)) ([])) : ACalls Try.prog tab 116 [.int .i64 (a0)] [] R := by
  refine ACalls.out (fun r => .bool (r)) (fun r => []) (Q := Q) (ACalls.introX (mv := mv) tab_ok mixed_ (fn := Try.f116) (by kernel_rfl) rfl (by kernel_rfl) (by kernel_rfl) (leB rfl) ?_) (fun v => by first | exact ⟨rfl, leB rfl⟩ | (cases v <;> exact ⟨rfl, leB rfl⟩)) k
  conv => whnf
  refine ⟨_, Weak.a ?_, ?_, h⟩; (conv => whnf); exact ⟨rfl, rfl, rfl, rfl, rfl⟩; exact rfl
theorem c_num_Fits_int16_ {a0 : Int} {Q : Bool → Prop} {R : AV → List AB → Prop} (h : (g_num_Fits_int16_ a0).run Q) (k : ∀ r, Q r → R (.bool (r)) ([])) : ACalls Try.prog tab 127 [.int .i64 (a0)] [] R := by
  refine ACalls.out (fun r => .bool (r)) (fun r => []) (Q := Q) (ACalls.introX (mv := mv) tab_ok mixed_ (fn := Try.f127) (by kernel_rfl) rfl (by kernel_rfl) (by kernel_rfl) (leB rfl) ?_) (fun v => by first | exact ⟨rfl, leB rfl⟩ | (cases v <;> exact ⟨rfl, leB rfl⟩)) k
  conv => whnf
  refine ⟨_, Weak.a ?_, ?_, h⟩; (conv => whnf); exact ⟨rfl, rfl, rfl, rfl, rfl⟩; exact rfl
theorem c_num_Sat_int16_ {a0 : Int} {Q : Int → Prop} {R : AV → List AB → Prop} (h : (g_num_Sat_int16_ a0).run Q) (k : ∀ r, Q r → R (.int .i16 (r)) ([])) : ACalls Try.prog tab 117 [.int .i64 (a0)] [] R := by
  refine ACalls.out (fun r => .int .i16 (r)) (fun r => []) (Q := Q) (ACalls.introX (mv := mv) tab_ok mixed_ (fn := Try.f117) (by kernel_rfl) rfl (by kernel_rfl) (by kernel_rfl) (leB rfl) ?_) (fun v => by first | exact ⟨rfl, leB rfl⟩ | (cases v <;> exact ⟨rfl, leB rfl⟩)) k
  conv => whnf
  refine ASeq.go tab_ok mixed_ ?_
  conv => whnf
  refine ACalls.inn (c_num_Fits_int16_ (W.bindE h) (fun v1 h => ?_)) ⟨rfl, rfl⟩
  conv => whnf
  refine XSplit.mk (fun e => ?_) (fun e => ?_)
  · replace h := XSplit.t h e
    conv => whnf
    refine ⟨_, Weak.a ?_, ?_, h⟩; (conv => whnf); exact ⟨rfl, rfl, rfl, rfl, rfl⟩; exact rfl
  · replace h := XSplit.f h e
    conv => whnf
    refine ASeq.go tab_ok mixed_ ?_
    conv => whnf
    refine XNeed.mk (of_decide_eq_true rfl) ?_
    conv => whnf
    refine ALoop.unroll tab_ok mixed_ (kn := fun st => ALoop Try.prog tab _ _ _ _ st _) (fun _ h => h) ?_
    conv => whnf
    refine ASeq.go tab_ok mixed_ ?_
    conv => whnf
    refine XSplit.tt rfl ?_
    conv => whnf
    refine ASeq.go tab_ok mixed_ ?_
    conv => whnf
    refine XNeed.mk (of_decide_eq_true rfl) ?_
    conv => whnf
    refine ALoop.unroll tab_ok mixed_ (kn := fun st => ALoop Try.prog tab _ _ _ _ st _) (fun _ h => h) ?_
    conv => whnf
    refine ASeq.go tab_ok mixed_ ?_
    conv => whnf
    refine XSplit.tt rfl ?_
    conv => whnf
    refine ASeq.go tab_ok mixed_ ?_
    conv => whnf
    refine XNeed.mk (of_decide_eq_true rfl) ?_
    conv => whnf
    refine ALoop.unroll tab_ok mixed_ (kn := fun st => ALoop Try.prog tab _ _ _ _ st _) (fun _ h => h) ?_
    conv => whnf
    refine ASeq.go tab_ok mixed_ ?_
    conv => whnf
    refine XSplit.tt rfl ?_
    conv => whnf
    refine ASeq.go tab_ok mixed_ ?_
    conv => whnf
    refine XNeed.mk (of_decide_eq_true rfl) ?_
    conv => whnf
    refine ALoop.unroll tab_ok mixed_ (kn := fun st => ALoop Try.prog tab _ _ _ _ st _) (fun _ h => h) ?_
    conv => whnf
    refine ASeq.go tab_ok mixed_ ?_
    conv => whnf
    refine XSplit.tt rfl ?_
    conv => whnf
    refine ASeq.go tab_ok mixed_ ?_
    conv => whnf
    refine XNeed.mk (of_decide_eq_true rfl) ?_
    conv => whnf
    refine ALoop.unroll tab_ok mixed_ (kn := fun st => ALoop Try.prog tab _ _ _ _ st _) (fun _ h => h) ?_
    conv => whnf
    refine ASeq.go tab_ok mixed_ ?_
    conv => whnf
    refine XSplit.tt rfl ?_
    conv => whnf
    refine ASeq.go tab_ok mixed_ ?_
    conv => whnf
    refine XNeed.mk (of_decide_eq_true rfl) ?_
    conv => whnf
    refine ALoop.unroll tab_ok mixed_ (kn := fun st => ALoop Try.prog tab _ _ _ _ st _) (fun _ h => h) ?_
    conv => whnf
    refine ASeq.go tab_ok mixed_ ?_
    conv => whnf
    refine XSplit.tt rfl ?_
    conv => whnf
    refine ASeq.go tab_ok mixed_ ?_
    conv => whnf
    refine XNeed.mk (of_decide_eq_true rfl) ?_
    conv => whnf
    refine ALoop.unroll tab_ok mixed_ (kn := fun st => ALoop Try.prog tab _ _ _ _ st _) (fun _ h => h) ?_
    conv => whnf
    refine ASeq.go tab_ok mixed_ ?_
    conv => whnf
    refine XSplit.tt rfl ?_
    conv => whnf
    refine ASeq.go tab_ok mixed_ ?_
    conv => whnf
    refine XNeed.mk (of_decide_eq_true rfl) ?_
    conv => whnf
    refine ALoop.unroll tab_ok mixed_ (kn := fun st => ALoop Try.prog tab _ _ _ _ st _) (fun _ h => h) ?_
    conv => whnf
    refine ASeq.go tab_ok mixed_ ?_
    conv => whnf
    refine XSplit.tt rfl ?_
    conv => whnf
    refine ASeq.go tab_ok mixed_ ?_
    conv => whnf
    refine XNeed.mk (of_decide_eq_true rfl) ?_
    conv => whnf
    refine ALoop.unroll tab_ok mixed_ (kn := fun st => ALoop Try.prog tab _ _ _ _ st _) (fun _ h => h) ?_
    conv => whnf
    refine ASeq.go tab_ok mixed_ ?_
    conv => whnf
    refine XSplit.tt rfl ?_
    conv => whnf
    refine ASeq.go tab_ok mixed_ ?_
    conv => whnf
    refine XNeed.mk (of_decide_eq_true rfl) ?_
    conv => whnf
    refine ALoop.unroll tab_ok mixed_ (kn := fun st => ALoop Try.prog tab _ _ _ _ st _) (fun _ h => h) ?_
    conv => whnf
    refine ASeq.go tab_ok mixed_ ?_
    conv => whnf
    refine XSplit.tt rfl ?_
    conv => whnf
    refine ASeq.go tab_ok mixed_ ?_
    conv => whnf
    refine XNeed.mk (of_decide_eq_true rfl) ?_
    conv => whnf
    refine ALoop.unroll tab_ok mixed_ (kn := fun st => ALoop Try.prog tab _ _ _ _ st _) (fun _ h => h) ?_
    conv => whnf
    refine ASeq.go tab_ok mixed_ ?_
    conv => whnf
    refine XSplit.tt rfl ?_
    conv => whnf
    refine ASeq.go tab_ok mixed_ ?_
    conv => whnf
    refine XNeed.mk (of_decide_eq_true rfl) ?_
    conv => whnf
    refine ALoop.unroll tab_ok mixed_ (kn := fun st => ALoop Try.prog tab _ _ _ _ st _) (fun _ h => h) ?_
    conv => whnf
    refine ASeq.go tab_ok mixed_ ?_
    conv => whnf
    refine XSplit.tt rfl ?_
    conv => whnf
    refine ASeq.go tab_ok mixed_ ?_
    conv => whnf
    refine XNeed.mk (of_decide_eq_true rfl) ?_
    conv => whnf
    refine ALoop.unroll tab_ok mixed_ (kn := fun st => ALoop Try.prog tab _ _ _ _ st _) (fun _ h => h) ?_
    conv => whnf
    refine ASeq.go tab_ok mixed_ ?_
    conv => whnf
    refine XSplit.tt rfl ?_
    conv => whnf
    refine ASeq.go tab_ok mixed_ ?_
    conv => whnf
    refine XNeed.mk (of_decide_eq_true rfl) ?_
    conv => whnf
    refine ALoop.unroll tab_ok mixed_ (kn := fun st => ALoop Try.prog tab _ _ _ _ st _) (fun _ h => h) ?_
    conv => whnf
    refine ASeq.go tab_ok mixed_ ?_
    conv => whnf
    refine XSplit.tt rfl ?_
    conv => whnf
    refine ASeq.go tab_ok mixed_ ?_
    conv => whnf
    refine XNeed.mk (of_decide_eq_true rfl) ?_
    conv => whnf
    refine ALoop.unroll tab_ok mixed_ (kn := fun st => ALoop Try.prog tab _ _ _ _ st _) (fun _ h => h) ?_
    conv => whnf
    refine ASeq.go tab_ok mixed_ ?_
    conv => whnf
    refine XSplit.ff rfl ?_
    conv => whnf
    refine ASeq.go tab_ok mixed_ ?_
    conv => whnf
    refine XSplit.mk (fun e => ?_) (fun e => ?_)
    · replace h := XSplit.t h e
      conv => whnf
      refine ⟨_, Weak.a ?_, ?_, h⟩; (conv => whnf); exact ⟨rfl, rfl, rfl, rfl, rfl⟩; exact rfl
    · replace h := XSplit.f h e
      conv => whnf
      refine ⟨_, Weak.a ?_, ?_, h⟩; (conv => whnf); exact ⟨rfl, rfl, rfl, rfl, rfl⟩; exact rfl
theorem c_num_Clamp {a0 : Int} {a1 : Int} {a2 : Int} {Q : Int → Prop} {R : AV → List AB → Prop} (h : (g_num_Clamp a0 a1 a2).run Q) (k : ∀ r, Q r → R (.int .i64 (r)) ([])) : ACalls Try.prog tab 118 [.int .i64 (a0), .int .i64 (a1), .int .i64 (a2)] [] R := by
  refine ACalls.out (fun r => .int .i64 (r)) (fun r => []) (Q := Q) (ACalls.introX (mv := mv) tab_ok mixed_ (fn := Try.f118) (by kernel_rfl) rfl (by kernel_rfl) (by kernel_rfl) (leB rfl) ?_) (fun v => by first | exact ⟨rfl, leB rfl⟩ | (cases v <;> exact ⟨rfl, leB rfl⟩)) k
  conv => whnf
  refine ASeq.go tab_ok mixed_ ?_
  conv => whnf
  refine XSplit.mk (fun e => ?_) (fun e => ?_)
  · replace h := XSplit.t h e
    conv => whnf
    refine ⟨_, Weak.a ?_, ?_, h⟩; (conv => whnf); exact ⟨rfl, rfl, rfl, rfl, rfl⟩; exact rfl
  · replace h := XSplit.f h e
    conv => whnf
    refine XSplit.mk (fun e => ?_) (fun e => ?_)
    · replace h := XSplit.t h e
      conv => whnf
      refine ⟨_, Weak.a ?_, ?_, h⟩; (conv => whnf); exact ⟨rfl, rfl, rfl, rfl, rfl⟩; exact rfl
    · replace h := XSplit.f h e
      conv => whnf
      refine ⟨_, Weak.a ?_, ?_, h⟩; (conv => whnf); exact ⟨rfl, rfl, rfl, rfl, rfl⟩; exact rfl
theorem c_fixq_Finish {a0 : Int} {a1 : Int} {a2 : Int} {a3 : Int} {Q : Int × Int → Prop} {R : AV → List AB → Prop} (h : (g_fixq_Finish a0 a1 a2 a3).run Q) (k : ∀ r, Q r → R (.tup [.int .i64 (r.fst), .int .i64 (r.snd)]) ([])) : ACalls Try.prog tab 98 [.int .i64 (a0), .int .i64 (a1), .int .i64 (a2), .int .i64 (a3)] [] R := by
  refine ACalls.out (fun r => .tup [.int .i64 (r.fst), .int .i64 (r.snd)]) (fun r => []) (Q := Q) (ACalls.introX (mv := mv) tab_ok mixed_ (fn := Try.f98) (by kernel_rfl) rfl (by kernel_rfl) (by kernel_rfl) (leB rfl) ?_) (fun v => by first | exact ⟨rfl, leB rfl⟩ | (cases v <;> exact ⟨rfl, leB rfl⟩)) k
  conv => whnf
  refine ASeq.go tab_ok mixed_ ?_
  conv => whnf
  refine ASeq.joinW tab_ok mixed_ (fun v4 => ⟨[(0, .int .i64 (a0)), (1, .int .i64 (a1)), (2, .int .i64 (a2)), (3, .int .i64 (a3)), (8, .int .i64 (0)), (9, .int .i64 (0)), (25, .bool (v4))], [], 0, [], []⟩) h (fun Q h => ?_) (fun v4 h => ?_)
  · conv => whnf
    refine XSplit.mk (fun e => ?_) (fun e => ?_)
    · replace h := XSplit.t h e
      conv => whnf
      refine ⟨_, Weak.a ?_, h⟩; (conv => whnf); exact ⟨rfl, rfl, rfl, rfl, rfl⟩
    · replace h := XSplit.f h e
      conv => whnf
      refine ACalls.inn (c_num_Fits_int8_ (W.bindE h) (fun v5 h => ?_)) ⟨rfl, rfl⟩
      conv => whnf
      refine ⟨_, Weak.a ?_, h⟩; (conv => whnf); exact ⟨rfl, rfl, rfl, rfl, rfl⟩
  · conv => whnf
    refine XSplit.mk (fun e => ?_) (fun e => ?_)
    · replace h := XSplit.t h e
      conv => whnf
      refine ⟨_, Weak.a ?_, ?_, h⟩; (conv => whnf); exact ⟨rfl, rfl, rfl, rfl, rfl⟩; exact rfl
    · replace h := XSplit.f h e
      conv => whnf
      refine ACalls.inn (c_num_Sat_int16_ (W.bindE h) (fun v6 h => ?_)) ⟨rfl, rfl⟩
      conv => whnf
      refine ACalls.inn (c_num_Clamp (W.bindE h) (fun v7 h => ?_)) ⟨rfl, rfl⟩
      conv => whnf
      refine ⟨_, Weak.a ?_, ?_, h⟩; (conv => whnf); exact ⟨rfl, rfl, rfl, rfl, rfl⟩; exact rfl
theorem c_plain_home {a0 : Int} {a1 : Int} {a2 : Int} {a3 : Int} {a4 : Int} {a5 : Int} {a6 : Int} {a7 : Int} {a8 : Int} {a9 : Int} {a10 : Int} {a11 : Int} {a12 : Bool} {a13 : Rws} {a14 : Bool} {a15 : Rws} {a16 : Int} {a17 : Int} {a18 : Int} {a19 : Int} {a20 : Int} {a21 : Int} {a22 : Int} {a23 : Int} {a24 : Int} {Q : Int → Prop} {R : AV → List AB → Prop} (h : (g_plain_home a0 a1 a2 a3 a4 a5 a6 a7 a8 a9 a10 a11 a12 a13 a14 a15 a16 a17 a18 a19 a20 a21 a22 a23 a24).run Q) (k : ∀ r, Q r → R (.int .i8 (r)) ([])) : ACalls Try.prog tab 67 [.agg [.int .i64 (a0), .int .i64 (a1), .int .i64 (a2), .int .i64 (a3), .int .i64 (a4), .int .i64 (a5), .int .i64 (a6), .int .i64 (a7), .int .i64 (a8), .int .i64 (a9), .int .i64 (a10), .int .i64 (a11), .sl (a12) 48 (a13), .sl (a14) 21 (a15), .int .i64 (a16), .int .i64 (a17), .int .i64 (a18), .int .i64 (a19), .int .i64 (a20), .int .i64 (a21), .int .i64 (a22), .int .i64 (a23)], .int .i64 (a24)] [] R := by
  refine ACalls.out (fun r => .int .i8 (r)) (fun r => []) (Q := Q) (ACalls.introX (mv := mv) tab_ok mixed_ (fn := Try.f67) (by kernel_rfl) rfl (by kernel_rfl) (by kernel_rfl) (leB rfl) ?_) (fun v => by first | exact ⟨rfl, leB rfl⟩ | (cases v <;> exact ⟨rfl, leB rfl⟩)) k
  conv => whnf
  refine ACalls.inn (c_fixq_Finish (W.bindE h) (fun v1 h => ?_)) ⟨rfl, rfl⟩
  conv => whnf
  refine ⟨_, Weak.a ?_, ?_, h⟩; (conv => whnf); exact ⟨rfl, rfl, rfl, rfl, rfl⟩; exact rfl
theorem c_plain_reduce {a0 : Int} {a1 : Int} {a2 : Int} {a3 : Int} {a4 : Int} {a5 : Bool} {a6 : Rws} {a7 : Int} {a8 : Int} {a9 : Bool} {a10 : Rws} {Q : Bool × Rws → Prop} {R : AV → List AB → Prop} (h : (g_plain_reduce a0 a1 a2 a3 a4 a5 a6 a7 a8 a9 a10).run Q) (k : ∀ r, Q r → R (.own 0) ([.arr true 81 (r.fst) (r.snd)])) : ACalls Try.prog tab 42 [.agg [.int .i64 (a0), .int .i64 (a1), .int .i64 (a2), .int .i64 (a3), .int .i64 (a4), .sl (a5) 47 (a6), .int .i64 (a7)], .int .i64 (a8), .sl (a9) 81 (a10)] [] R := by
  refine ACalls.out (fun r => .own 0) (fun r => [.arr true 81 (r.fst) (r.snd)]) (Q := Q) (ACalls.introX (mv := mv) tab_ok mixed_ (fn := Try.f42) (by kernel_rfl) rfl (by kernel_rfl) (by kernel_rfl) (leB rfl) ?_) (fun v => by first | exact ⟨rfl, leB rfl⟩ | (cases v <;> exact ⟨rfl, leB rfl⟩)) k
  conv => whnf
  refine XNeed.mk (XNeed.c h) ?_; replace h := XNeed.x h
  conv => whnf
  refine ACalls.inn (c_terms_Length (W.bindE h) (fun v8 h => ?_)) ⟨rfl, rfl⟩
  conv => whnf
  refine ACalls.inn (c_plain_sums (W.bindE h) (fun v9 h => ?_)) ⟨rfl, rfl⟩
  conv => whnf
  refine XNeed.mk (XNeed.c h) ?_; replace h := XNeed.x h
  conv => whnf
  refine ASeq.go tab_ok mixed_ ?_
  conv => whnf
  refine ALoop.ofW tab_ok mixed_ (fun v10 => ⟨[(6, .nils), (7, .ptr 0 0), (8, .int .i64 (v8.fst)), (11, .own 1), (35, .own 2), (36, .int .i64 ((↑(List.length v9.snd) : Int))), (37, .int .i64 (v10.fst))], [(0, .box 47 [.int .i64 (ri a6 (IntKind.i64.wrap (a8 - 1)).toNat 0), .int .i64 (ri a6 (IntKind.i64.wrap (a8 - 1)).toNat 1), .int .i64 (ri a6 (IntKind.i64.wrap (a8 - 1)).toNat 2), .int .i64 (ri a6 (IntKind.i64.wrap (a8 - 1)).toNat 3), .int .i64 (ri a6 (IntKind.i64.wrap (a8 - 1)).toNat 4), .int .i64 (ri a6 (IntKind.i64.wrap (a8 - 1)).toNat 5), .int .i64 (ri a6 (IntKind.i64.wrap (a8 - 1)).toNat 6), .int .i64 (ri a6 (IntKind.i64.wrap (a8 - 1)).toNat 7), .int .i64 (ri a6 (IntKind.i64.wrap (a8 - 1)).toNat 8), .int .i64 (ri a6 (IntKind.i64.wrap (a8 - 1)).toNat 9), .int .i64 (ri a6 (IntKind.i64.wrap (a8 - 1)).toNat 10), .int .i64 (ri a6 (IntKind.i64.wrap (a8 - 1)).toNat 11), .sl (rn a6 (IntKind.i64.wrap (a8 - 1)).toNat 12) 48 (rr a6 (IntKind.i64.wrap (a8 - 1)).toNat 12), .sl (rn a6 (IntKind.i64.wrap (a8 - 1)).toNat 13) 21 (rr a6 (IntKind.i64.wrap (a8 - 1)).toNat 13), .int .i64 (ri a6 (IntKind.i64.wrap (a8 - 1)).toNat 14), .int .i64 (ri a6 (IntKind.i64.wrap (a8 - 1)).toNat 15), .int .i64 (ri a6 (IntKind.i64.wrap (a8 - 1)).toNat 16), .int .i64 (ri a6 (IntKind.i64.wrap (a8 - 1)).toNat 17), .int .i64 (ri a6 (IntKind.i64.wrap (a8 - 1)).toNat 18), .int .i64 (ri a6 (IntKind.i64.wrap (a8 - 1)).toNat 19), .int .i64 (ri a6 (IntKind.i64.wrap (a8 - 1)).toNat 20), .int .i64 (ri a6 (IntKind.i64.wrap (a8 - 1)).toNat 21)]), (1, .arr true 81 (false) (v10.snd)), (2, .arr true 2 (v9.fst) (v9.snd))], 3, [], []⟩) (fun v11 => (.exit 0, ⟨[(6, .nils), (11, .own 0)], [(0, .arr true 81 (false) (v11))], 1, [], []⟩)) (W.bindE h) (Weak.a ?_) (fun v10 J_ Q h => ?_) (fun v11 h => ?_)
  · conv => whnf
    exact ⟨rfl, rfl, rfl, rfl, rfl⟩
  · conv => whnf
    refine ASeq.go tab_ok mixed_ ?_
    conv => whnf
    refine XSplit.mk (fun e => ?_) (fun e => ?_)
    · replace h := XSplit.t h e
      conv => whnf
      refine ASeq.go tab_ok mixed_ ?_
      conv => whnf
      refine XNeed.mk (XNeed.c h) ?_; replace h := XNeed.x h
      conv => whnf
      refine ACalls.inn (c_fixq_Apply (W.bindE h) (fun v12 h => ?_)) ⟨rfl, rfl⟩
      conv => whnf
      refine ASeq.joinW tab_ok mixed_ (fun v13 => ⟨[(6, .nils), (7, .ptr 0 0), (8, .int .i64 (v8.fst)), (11, .own 1), (12, .int .i64 (v10.fst)), (13, .int .i64 (ri v9.snd v10.fst.toNat 0)), (14, .int .i64 (v13)), (35, .own 2), (36, .int .i64 ((↑(List.length v9.snd) : Int))), (37, .int .i64 (v10.fst)), (38, .bool (decide (v10.fst < (↑(List.length v9.snd) : Int)))), (39, .int .i64 (v10.fst)), (40, .elt 2 (v10.fst.toNat) 0), (41, .int .i64 (ri v9.snd v10.fst.toNat 0)), (42, .tup [.int .i64 (v12.fst), .int .i64 (v12.snd)]), (43, .int .i64 (ri v9.snd v10.fst.toNat 0)), (44, .ptr 0 14), (45, .agg [.int .i64 (ri a6 (IntKind.i64.wrap (a8 - 1)).toNat 14), .int .i64 (ri a6 (IntKind.i64.wrap (a8 - 1)).toNat 15)]), (46, .tup [.int .i64 (v12.fst), .int .i64 (v12.snd)]), (47, .int .i64 (v12.fst)), (48, .int .i64 (v12.snd)), (49, .ptr 0 0), (50, .int .i64 (ri a6 (IntKind.i64.wrap (a8 - 1)).toNat 0)), (51, .bool (ri a6 (IntKind.i64.wrap (a8 - 1)).toNat 0 == 4))], [(0, .box 47 [.int .i64 (ri a6 (IntKind.i64.wrap (a8 - 1)).toNat 0), .int .i64 (ri a6 (IntKind.i64.wrap (a8 - 1)).toNat 1), .int .i64 (ri a6 (IntKind.i64.wrap (a8 - 1)).toNat 2), .int .i64 (ri a6 (IntKind.i64.wrap (a8 - 1)).toNat 3), .int .i64 (ri a6 (IntKind.i64.wrap (a8 - 1)).toNat 4), .int .i64 (ri a6 (IntKind.i64.wrap (a8 - 1)).toNat 5), .int .i64 (ri a6 (IntKind.i64.wrap (a8 - 1)).toNat 6), .int .i64 (ri a6 (IntKind.i64.wrap (a8 - 1)).toNat 7), .int .i64 (ri a6 (IntKind.i64.wrap (a8 - 1)).toNat 8), .int .i64 (ri a6 (IntKind.i64.wrap (a8 - 1)).toNat 9), .int .i64 (ri a6 (IntKind.i64.wrap (a8 - 1)).toNat 10), .int .i64 (ri a6 (IntKind.i64.wrap (a8 - 1)).toNat 11), .sl (rn a6 (IntKind.i64.wrap (a8 - 1)).toNat 12) 48 (rr a6 (IntKind.i64.wrap (a8 - 1)).toNat 12), .sl (rn a6 (IntKind.i64.wrap (a8 - 1)).toNat 13) 21 (rr a6 (IntKind.i64.wrap (a8 - 1)).toNat 13), .int .i64 (ri a6 (IntKind.i64.wrap (a8 - 1)).toNat 14), .int .i64 (ri a6 (IntKind.i64.wrap (a8 - 1)).toNat 15), .int .i64 (ri a6 (IntKind.i64.wrap (a8 - 1)).toNat 16), .int .i64 (ri a6 (IntKind.i64.wrap (a8 - 1)).toNat 17), .int .i64 (ri a6 (IntKind.i64.wrap (a8 - 1)).toNat 18), .int .i64 (ri a6 (IntKind.i64.wrap (a8 - 1)).toNat 19), .int .i64 (ri a6 (IntKind.i64.wrap (a8 - 1)).toNat 20), .int .i64 (ri a6 (IntKind.i64.wrap (a8 - 1)).toNat 21)]), (1, .arr true 81 (false) (v10.snd)), (2, .arr true 2 (v9.fst) (v9.snd))], 3, [], []⟩) h (fun Q h => ?_) (fun v13 h => ?_)
      · conv => whnf
        refine XSplit.mk (fun e => ?_) (fun e => ?_)
        · replace h := XSplit.t h e
          conv => whnf
          refine ACalls.inn (c_fixq_Mean (W.bindE h) (fun v14 h => ?_)) ⟨rfl, rfl⟩
          conv => whnf
          refine ⟨_, Weak.a ?_, h⟩; (conv => whnf); exact ⟨rfl, rfl, rfl, rfl, rfl⟩
        · replace h := XSplit.f h e
          conv => whnf
          refine ⟨_, Weak.a ?_, h⟩; (conv => whnf); exact ⟨rfl, rfl, rfl, rfl, rfl⟩
      · conv => whnf
        refine ACalls.inn (c_plain_home (W.bindE h) (fun v15 h => ?_)) ⟨rfl, rfl⟩
        conv => whnf
        refine XNeed.mk (XNeed.c h) ?_; replace h := XNeed.x h
        conv => whnf
        refine ⟨_, Weak.a ?_, h⟩; (conv => whnf); exact ⟨rfl, rfl, rfl, rfl, rfl⟩
    · replace h := XSplit.f h e
      conv => whnf
      refine ⟨_, ?_, Weak.a ?_, h⟩; exact rfl; (conv => whnf); exact ⟨rfl, rfl, rfl, rfl, rfl⟩
  · conv => whnf
    refine ⟨_, Weak.a ?_, ?_, h⟩; (conv => whnf); exact ⟨rfl, rfl, rfl, rfl, rfl⟩; exact rfl
theorem c_window_Positions {a0 : Int} {a1 : Int} {a2 : Int} {a3 : Int} {a4 : Int} {a5 : Int} {a6 : Int} {a7 : Int} {a8 : Int} {a9 : Int} {a10 : Int} {Q : Int × Int → Prop} {R : AV → List AB → Prop} (h : (g_window_Positions a0 a1 a2 a3 a4 a5 a6 a7 a8 a9 a10).run Q) (k : ∀ r, Q r → R (.fn 99 [] [.ptr 0 0, .ptr 1 0]) ([.box 3 [.int .i64 (r.fst)], .box 3 [.int .i64 (r.snd)]])) : ACalls Try.prog tab 68 [.agg [.int .i64 (a0), .int .i64 (a1), .int .i64 (a2)], .agg [.int .i64 (a3), .int .i64 (a4), .int .i64 (a5), .int .i64 (a6), .int .i64 (a7), .int .i64 (a8), .int .i64 (a9), .int .i64 (a10)]] [] R := by
  refine ACalls.out (fun r => .fn 99 [] [.ptr 0 0, .ptr 1 0]) (fun r => [.box 3 [.int .i64 (r.fst)], .box 3 [.int .i64 (r.snd)]]) (Q := Q) (ACalls.introX (mv := mv) tab_ok mixed_ (fn := Try.f68) (by kernel_rfl) rfl (by kernel_rfl) (by kernel_rfl) (leB rfl) ?_) (fun v => by first | exact ⟨rfl, leB rfl⟩ | (cases v <;> exact ⟨rfl, leB rfl⟩)) k
  conv => whnf
  refine ACalls.inn (c_window_Out (W.bindE h) (fun v1 h => ?_)) ⟨rfl, rfl⟩
  conv => whnf
  refine ⟨_, Weak.a ?_, ?_, h⟩; (conv => whnf); exact ⟨rfl, rfl, rfl, rfl, rfl⟩; exact rfl
open Go.RowKit in
theorem it_window_Positions_1 {a0 a1 : Int} (hN : posOK a0 a1) : AIter Try.prog tab 99 [[I a0], [I a1]] (fun x : Int × Int => [I x.1, I x.2]) (posW a0 a1) := by
  obtain ⟨hr, hc1⟩ := hN
  refine ⟨⟨Try.f99, by kernel_rfl, by kernel_rfl, by kernel_rfl⟩, fun bs w l J hg hc hy h0 => ?_⟩
  have hlen := (hc 0 w h0).1
  match bs, hlen with
  | [b1, b2], _ =>
    have cap : ∀ i W, J i W → W.cell? ⟨b1, 0, none⟩ = some (.int .i64 a0) ∧ W.cell? ⟨b2, 0, none⟩ = some (.int .i64 a1) := fun i W hj => by
      obtain ⟨_, hcap⟩ := hc i W hj
      obtain ⟨vs1, r1, q1⟩ := hcap 0 b1 [I a0] rfl rfl
      obtain ⟨vs2, r2, q2⟩ := hcap 1 b2 [I a1] rfl rfl
      match vs1, q1, vs2, q2 with
      | [u1], q1, [u2], q2 =>
        have e1 : u1 = .int .i64 a0 := q1.1
        have e2 : u2 = .int .i64 a1 := q2.1
        subst e1 e2
        exact ⟨r1 0 _ rfl, r2 0 _ rfl⟩
    obtain ⟨h1, h2⟩ := cap 0 w h0
    have hy' : ∀ (y x : Nat) (W : World), y < a0.toNat → x < a1.toNat → J (y * a1.toNat + x) W → YieldAt (Wd none) 0 Try.prog l #[.int .i64 y, .int .i64 x] W fun e W' => e = .returned (.bool true) ∧ J (y * a1.toNat + x + 1) W' := fun y x W h3 h4 hj =>
      hy (y * a1.toNat + x) (Go.Proofs.Ytalchibbmkhkpaa.VX.W.ret ((y : Int), (x : Int))) W (by unfold posW; rw [List.getElem?_map, posL_get _ _ y x h3 h4]; rfl) hj W [.int .i64 y, .int .i64 x] ⟨Nat.le_refl _, fun _ _ => rfl, rfl, rfl, rfl⟩ ⟨rfl, rfl, trivial⟩
    have hlast : (posW a0 a1).length = a0.toNat * a1.toNat := by unfold posW; rw [List.length_map, posL_len]
    rw [hlast]
    clear hlast hy
    refine callsIn_Wd.1 (callsIn_of_wp_marks (F := Wd none) (n := 0) (fn := Try.f99) (by kernel_rfl) rfl trivial ?_)
    show Code.wpIn _ _ _ _ _ { tmps := #[.func (.yield l) #[] #[], .pointer (some ⟨b1, 0, none⟩), .pointer (some ⟨b2, 0, none⟩)] ++ Array.replicate 18 undef, defers := [] } _
    simp only [Array.replicate_succ, Array.replicate_zero, List.push_toArray, List.append_toArray, List.nil_append, List.cons_append]
    have hro : (Wd none).round = none := rfl
    have hdp : (Wd none).depth = none := rfl
    generalize hWd : Wd none = F at hro hdp hy' ⊢
    gi_wp2
    refine wpIn_loop (fun a W => ∃ (y : Nat) (v3 v4 v5 v8 v9 v10 v11 v12 v13 v14 v15 v16 v17 v18 v19 v20 : Value), y ≤ a0.toNat ∧ J (y * a1.toNat) W ∧
      a = { tmps := #[.func (.yield l) #[] #[], .pointer (some ⟨b1, 0, none⟩), .pointer (some ⟨b2, 0, none⟩), v3, v4, v5, .int .i64 a0, .int .i64 y, v8, v9, v10, v11, v12, v13, v14, v15, v16, v17, v18, v19, v20], defers := [] })
      (fun a _ => a0.toNat - vI (a.tmps.getD 7 undef)) ⟨0, _, _, _, _, _, _, _, _, _, _, _, _, _, _, _, _, Nat.zero_le _, by simpa using h0, rfl⟩ ?_
    rintro _ W ⟨y, v3, v4, v5, v8, v9, v10, v11, v12, v13, v14, v15, v16, v17, v18, v19, v20, hyr, hj, rfl⟩
    have h2' := (cap _ _ hj).2
    by_cases hyl : (y : Int) < a0
    · gi_wp2
      refine wpIn_loop (fun a W => ∃ (x : Nat) (v3 v5 v8 v9 v12 v13 v14 v15 v16 v17 v18 v19 v20 : Value), x ≤ a1.toNat ∧ J (y * a1.toNat + x) W ∧
        a = { tmps := #[.func (.yield l) #[] #[], .pointer (some ⟨b1, 0, none⟩), .pointer (some ⟨b2, 0, none⟩), v3, .int .i64 y, v5, .int .i64 a0, .int .i64 y, v8, v9, .int .i64 a1, .int .i64 x, v12, v13, v14, v15, v16, v17, v18, v19, v20], defers := [] })
        (fun a _ => a1.toNat - vI (a.tmps.getD 11 undef)) ⟨0, _, _, _, _, _, _, _, _, _, _, _, _, _, Nat.zero_le _, by simpa using hj, rfl⟩ ?_
      rintro _ W ⟨x, v3, v5, v8, v9, v12, v13, v14, v15, v16, v17, v18, v19, v20, hxc, hj, rfl⟩
      by_cases hxl : (x : Int) < a1
      · obtain ⟨fn1, t1, as1, bo1, hy1, hR1⟩ := hy' y x W (by omega) (by omega) hj
        have hn1 : F.depth.isSome = true → 1 ≤ 0 := fun e => by rw [hdp] at e; cases e
        gi_wp2
        refine hR1.mono ?_
        rintro e W1 ⟨rfl, h1'⟩
        gi_wp2
        refine ⟨⟨x + 1, _, _, _, _, _, _, _, _, _, _, _, _, _, by omega, h1', rfl⟩, ?_⟩
        show a1.toNat - ((x : Int) + 1).toNat < a1.toNat - ((x : Int)).toNat
        omega
      · gi_wp2
        have hx : x = a1.toNat := by omega
        subst hx
        refine ⟨⟨y + 1, by omega, by rw [Nat.succ_mul]; exact hj, by omega⟩, ?_⟩
        simp only [vI]
        omega
    · gi_wp2
      have hyy : y = a0.toNat := by omega
      subst hyy
      exact ⟨_, run_noresults rfl _, ⟨_, rfl⟩, hj⟩
theorem c_plain_greatest {a0 : Int} {a1 : Int} {a2 : Int} {a3 : Int} {a4 : Int} {a5 : Int} {a6 : Int} {a7 : Int} {a8 : Int} {a9 : Int} {a10 : Int} {a11 : Int} {a12 : Bool} {a13 : Rws} {a14 : Bool} {a15 : Rws} {a16 : Int} {a17 : Int} {a18 : Int} {a19 : Int} {a20 : Int} {a21 : Int} {a22 : Int} {a23 : Int} {a24 : Int} {a25 : Int} {a26 : Int} {a27 : Bool} {a28 : Rws} {Q : Bool × Rws → Prop} {R : AV → List AB → Prop} (h : (g_plain_greatest a0 a1 a2 a3 a4 a5 a6 a7 a8 a9 a10 a11 a12 a13 a14 a15 a16 a17 a18 a19 a20 a21 a22 a23 a24 a25 a26 a27 a28).run Q) (k : ∀ r, Q r → R (.own 0) ([.arr true 81 (r.fst) (r.snd)])) : ACalls Try.prog tab 43 [.agg [.int .i64 (a0), .int .i64 (a1), .int .i64 (a2), .int .i64 (a3), .int .i64 (a4), .int .i64 (a5), .int .i64 (a6), .int .i64 (a7), .int .i64 (a8), .int .i64 (a9), .int .i64 (a10), .int .i64 (a11), .sl (a12) 48 (a13), .sl (a14) 21 (a15), .int .i64 (a16), .int .i64 (a17), .int .i64 (a18), .int .i64 (a19), .int .i64 (a20), .int .i64 (a21), .int .i64 (a22), .int .i64 (a23)], .agg [.int .i64 (a24), .int .i64 (a25), .int .i64 (a26)], .sl (a27) 81 (a28)] [] R := by
  refine ACalls.out (fun r => .own 0) (fun r => [.arr true 81 (r.fst) (r.snd)]) (Q := Q) (ACalls.introX (mv := mv) tab_ok mixed_ (fn := Try.f43) (by kernel_rfl) rfl (by kernel_rfl) (by kernel_rfl) (leB rfl) ?_) (fun v => by first | exact ⟨rfl, leB rfl⟩ | (cases v <;> exact ⟨rfl, leB rfl⟩)) k
  conv => whnf
  refine ASeq.go tab_ok mixed_ ?_
  conv => whnf
  refine ACalls.inn (c_window_Positions (W.bindE h) (fun v16 h => ?_)) ⟨rfl, rfl⟩
  conv => whnf
  have hN := XNeed.c h; replace h := XNeed.x h
  refine ASeq.range tab_ok mixed_ 2 (ids := [0, 1]) (cs := [[.int .i64 (v16.fst)], [.int .i64 (v16.snd)]]) (fx := [3, 4, 5, 6, 7, 8, 16]) (fun v17 => ⟨[(3, .ptr 2 0), (4, .ptr 3 0), (5, .ptr 4 0), (6, .nils), (7, .ptr 5 0), (8, .ptr 6 0), (16, .fn 99 [] [.ptr 0 0, .ptr 1 0])], [(0, .box 3 [.int .i64 (v16.fst)]), (1, .box 3 [.int .i64 (v16.snd)]), (2, .box 47 [.int .i64 (a0), .int .i64 (a1), .int .i64 (a2), .int .i64 (a3), .int .i64 (a4), .int .i64 (a5), .int .i64 (a6), .int .i64 (a7), .int .i64 (a8), .int .i64 (a9), .int .i64 (a10), .int .i64 (a11), .sl (a12) 48 (a13), .sl (a14) 21 (a15), .int .i64 (a16), .int .i64 (a17), .int .i64 (a18), .int .i64 (a19), .int .i64 (a20), .int .i64 (a21), .int .i64 (a22), .int .i64 (a23)]), (3, .box 23 [.int .i64 (a24), .int .i64 (a25), .int .i64 (a26)]), (4, .box 52 [.sl (a27) 81 (a28)]), (5, .box 52 [.own 7]), (6, .box 3 [.int .i64 (v17.fst)]), (7, .arr true 81 (v17.snd.fst) (v17.snd.snd))], 8, [], []⟩) _ ⟨fun _ => rfl, fun _ => (And.intro (Exists.intro _ rfl) (And.intro (Exists.intro _ rfl) trivial)), rfl, rfl, leB rfl, fun _ => leB rfl, fun _ => rfl, fun _ => ⟨rfl, rfl⟩, rfl, by decide +kernel, by decide +kernel⟩ (it_window_Positions_1 hN) (fun _ => rfl) (W.bindE h) (Weak.a ?_) (fun v18 v17 Q h => ?_) (fun v31 h => ?_)
  · conv => whnf
    exact ⟨rfl, rfl, rfl, rfl, rfl⟩
  · conv => whnf
    refine ASeq.go tab_ok mixed_ ?_
    conv => whnf
    refine ALoop.ofW tab_ok mixed_ (fun v19 => ⟨[(3, .ptr 2 0), (4, .ptr 3 0), (5, .ptr 4 0), (6, .nils), (7, .ptr 5 0), (8, .ptr 6 0), (16, .fn 99 [] [.ptr 0 0, .ptr 1 0]), (19, .ptr 3 2), (20, .int .i64 (a26)), (21, .int .i64 (v19.fst))], [(0, .box 3 [.int .i64 (v16.fst)]), (1, .box 3 [.int .i64 (v16.snd)]), (2, .box 47 [.int .i64 (a0), .int .i64 (a1), .int .i64 (a2), .int .i64 (a3), .int .i64 (a4), .int .i64 (a5), .int .i64 (a6), .int .i64 (a7), .int .i64 (a8), .int .i64 (a9), .int .i64 (a10), .int .i64 (a11), .sl (a12) 48 (a13), .sl (a14) 21 (a15), .int .i64 (a16), .int .i64 (a17), .int .i64 (a18), .int .i64 (a19), .int .i64 (a20), .int .i64 (a21), .int .i64 (a22), .int .i64 (a23)]), (3, .box 23 [.int .i64 (a24), .int .i64 (a25), .int .i64 (a26)]), (4, .box 52 [.sl (a27) 81 (a28)]), (5, .box 52 [.own 7]), (6, .box 3 [.int .i64 (v17.fst)]), (7, .arr true 81 (v19.snd.fst) (v19.snd.snd))], 8, [], []⟩) (fun v20 => (.exit 2, ⟨[(3, .ptr 2 0), (4, .ptr 3 0), (5, .ptr 4 0), (6, .nils), (7, .ptr 5 0), (8, .ptr 6 0), (16, .fn 99 [] [.ptr 0 0, .ptr 1 0]), (19, .ptr 3 2), (20, .int .i64 (a26)), (21, .int .i64 (v20.fst)), (22, .bool (v20.snd.fst))], [(0, .box 3 [.int .i64 (v16.fst)]), (1, .box 3 [.int .i64 (v16.snd)]), (2, .box 47 [.int .i64 (a0), .int .i64 (a1), .int .i64 (a2), .int .i64 (a3), .int .i64 (a4), .int .i64 (a5), .int .i64 (a6), .int .i64 (a7), .int .i64 (a8), .int .i64 (a9), .int .i64 (a10), .int .i64 (a11), .sl (a12) 48 (a13), .sl (a14) 21 (a15), .int .i64 (a16), .int .i64 (a17), .int .i64 (a18), .int .i64 (a19), .int .i64 (a20), .int .i64 (a21), .int .i64 (a22), .int .i64 (a23)]), (3, .box 23 [.int .i64 (a24), .int .i64 (a25), .int .i64 (a26)]), (4, .box 52 [.sl (a27) 81 (a28)]), (5, .box 52 [.own 7]), (6, .box 3 [.int .i64 (v17.fst)]), (7, .arr true 81 (v20.snd.snd.fst) (v20.snd.snd.snd))], 8, [], []⟩)) (W.bindE h) (Weak.a ?_) (fun v19 J_ Q h => ?_) (fun v20 h => ?_)
    · conv => whnf
      exact ⟨rfl, rfl, rfl, rfl, rfl⟩
    · conv => whnf
      refine ASeq.go tab_ok mixed_ ?_
      conv => whnf
      refine XSplit.mk (fun e => ?_) (fun e => ?_)
      · replace h := XSplit.t h e
        conv => whnf
        refine ASeq.go tab_ok mixed_ ?_
        conv => whnf
        refine ASeq.joinW tab_ok mixed_ (fun v21 => ⟨[(3, .ptr 2 0), (4, .ptr 3 0), (5, .ptr 4 0), (6, .nils), (7, .ptr 5 0), (8, .ptr 6 0), (9, .ptr 7 0), (10, .ptr 8 0), (16, .fn 99 [] [.ptr 0 0, .ptr 1 0]), (19, .ptr 3 2), (20, .int .i64 (a26)), (21, .int .i64 (v19.fst)), (22, .bool (decide (v19.fst < a26))), (23, .int .i64 (v19.fst)), (24, .agg [.int .i64 (a24), .int .i64 (a25), .int .i64 (a26)]), (25, .ptr 2 4), (26, .agg [.int .i64 (a4), .int .i64 (a5), .int .i64 (a6), .int .i64 (a7), .int .i64 (a8), .int .i64 (a9), .int .i64 (a10), .int .i64 (a11)]), (27, .int .i64 (v17.fst))], [(0, .box 3 [.int .i64 (v16.fst)]), (1, .box 3 [.int .i64 (v16.snd)]), (2, .box 47 [.int .i64 (a0), .int .i64 (a1), .int .i64 (a2), .int .i64 (a3), .int .i64 (a4), .int .i64 (a5), .int .i64 (a6), .int .i64 (a7), .int .i64 (a8), .int .i64 (a9), .int .i64 (a10), .int .i64 (a11), .sl (a12) 48 (a13), .sl (a14) 21 (a15), .int .i64 (a16), .int .i64 (a17), .int .i64 (a18), .int .i64 (a19), .int .i64 (a20), .int .i64 (a21), .int .i64 (a22), .int .i64 (a23)]), (3, .box 23 [.int .i64 (a24), .int .i64 (a25), .int .i64 (a26)]), (4, .box 52 [.sl (a27) 81 (a28)]), (5, .box 52 [.own 9]), (6, .box 3 [.int .i64 (v17.fst)]), (7, .box 3 [.int .i64 (v19.fst)]), (8, .box 81 [.int .i8 (v21)]), (9, .arr true 81 (v19.snd.fst) (v19.snd.snd))], 10, [], []⟩) h (fun Q h => ?_) (fun v21 h => ?_)
        · conv => whnf
          refine ACalls.inn (c_window_Taps (W.bindE h) (fun v h => ?_)) ⟨rfl, rfl⟩
          rcases v with v22 | v26
          · conv => whnf
            refine ASeq.range tab_ok mixed_ 2 (ids := []) (cs := []) (fx := [3, 4, 5, 6, 7, 8, 9, 10, 16, 19, 20, 21, 22, 23, 24, 25, 26, 27, 28]) (fun v23 => ⟨[(3, .ptr 2 0), (4, .ptr 3 0), (5, .ptr 4 0), (6, .nils), (7, .ptr 5 0), (8, .ptr 6 0), (9, .ptr 7 0), (10, .ptr 8 0), (16, .fn 99 [] [.ptr 0 0, .ptr 1 0]), (19, .ptr 3 2), (20, .int .i64 (a26)), (21, .int .i64 (v19.fst)), (22, .bool (decide (v19.fst < a26))), (23, .int .i64 (v19.fst)), (24, .agg [.int .i64 (a24), .int .i64 (a25), .int .i64 (a26)]), (25, .ptr 2 4), (26, .agg [.int .i64 (a4), .int .i64 (a5), .int .i64 (a6), .int .i64 (a7), .int .i64 (a8), .int .i64 (a9), .int .i64 (a10), .int .i64 (a11)]), (27, .int .i64 (v17.fst)), (28, .fn 100 [] [])], [(0, .box 3 [.int .i64 (v16.fst)]), (1, .box 3 [.int .i64 (v16.snd)]), (2, .box 47 [.int .i64 (a0), .int .i64 (a1), .int .i64 (a2), .int .i64 (a3), .int .i64 (a4), .int .i64 (a5), .int .i64 (a6), .int .i64 (a7), .int .i64 (a8), .int .i64 (a9), .int .i64 (a10), .int .i64 (a11), .sl (a12) 48 (a13), .sl (a14) 21 (a15), .int .i64 (a16), .int .i64 (a17), .int .i64 (a18), .int .i64 (a19), .int .i64 (a20), .int .i64 (a21), .int .i64 (a22), .int .i64 (a23)]), (3, .box 23 [.int .i64 (a24), .int .i64 (a25), .int .i64 (a26)]), (4, .box 52 [.sl (a27) 81 (a28)]), (5, .box 52 [.own 9]), (6, .box 3 [.int .i64 (v17.fst)]), (7, .box 3 [.int .i64 (v19.fst)]), (8, .box 81 [.int .i8 (-128)]), (9, .arr true 81 (v19.snd.fst) (v19.snd.snd))], 10, [], []⟩) _ ⟨fun _ => rfl, fun _ => trivial, rfl, rfl, leB rfl, fun _ => leB rfl, fun _ => rfl, fun _ => ⟨rfl, rfl⟩, rfl, by decide +kernel, by decide +kernel⟩ it_window_Taps_1 (fun _ => rfl) (W.bindE h) (Weak.a ?_) (fun _ v23 Q h => ?_) (fun v25 h => ?_)
            · conv => whnf
              exact ⟨rfl, rfl, rfl, rfl, rfl⟩
            · skip
              exact h.elim
            · conv => whnf
              refine ⟨_, Weak.a ?_, h⟩; (conv => whnf); exact ⟨rfl, rfl, rfl, rfl, rfl⟩
          · conv => whnf
            have hN := XNeed.c h; replace h := XNeed.x h
            refine ASeq.range tab_ok mixed_ 6 (ids := [2, 3, 4, 5]) (cs := [[.int .i64 (v26.fst), .int .i64 (v26.snd.fst), .int .i64 (v26.snd.snd.fst), .int .i64 (v26.snd.snd.snd.fst), .int .i64 (v26.snd.snd.snd.snd.fst), .int .i64 (v26.snd.snd.snd.snd.snd.fst), .int .i64 (v26.snd.snd.snd.snd.snd.snd.fst), .int .i64 (v26.snd.snd.snd.snd.snd.snd.snd.fst)], [.int .i64 (v26.snd.snd.snd.snd.snd.snd.snd.snd.fst)], [.int .i64 (v26.snd.snd.snd.snd.snd.snd.snd.snd.snd.fst)], [.int .i64 (v26.snd.snd.snd.snd.snd.snd.snd.snd.snd.snd.fst), .int .i64 (v26.snd.snd.snd.snd.snd.snd.snd.snd.snd.snd.snd.fst), .int .i64 (v26.snd.snd.snd.snd.snd.snd.snd.snd.snd.snd.snd.snd)]]) (fx := [3, 4, 5, 6, 7, 8, 9, 10, 16, 19, 20, 21, 22, 23, 24, 25, 26, 27, 28]) (fun v27 => ⟨[(3, .ptr 6 0), (4, .ptr 7 0), (5, .ptr 8 0), (6, .nils), (7, .ptr 9 0), (8, .ptr 10 0), (9, .ptr 11 0), (10, .ptr 12 0), (16, .fn 99 [] [.ptr 0 0, .ptr 1 0]), (19, .ptr 7 2), (20, .int .i64 (a26)), (21, .int .i64 (v19.fst)), (22, .bool (decide (v19.fst < a26))), (23, .int .i64 (v19.fst)), (24, .agg [.int .i64 (a24), .int .i64 (a25), .int .i64 (a26)]), (25, .ptr 6 4), (26, .agg [.int .i64 (a4), .int .i64 (a5), .int .i64 (a6), .int .i64 (a7), .int .i64 (a8), .int .i64 (a9), .int .i64 (a10), .int .i64 (a11)]), (27, .int .i64 (v17.fst)), (28, .fn 101 [] [.ptr 2 0, .ptr 3 0, .ptr 4 0, .ptr 5 0])], [(0, .box 3 [.int .i64 (v16.fst)]), (1, .box 3 [.int .i64 (v16.snd)]), (2, .box 41 [.int .i64 (v26.fst), .int .i64 (v26.snd.fst), .int .i64 (v26.snd.snd.fst), .int .i64 (v26.snd.snd.snd.fst), .int .i64 (v26.snd.snd.snd.snd.fst), .int .i64 (v26.snd.snd.snd.snd.snd.fst), .int .i64 (v26.snd.snd.snd.snd.snd.snd.fst), .int .i64 (v26.snd.snd.snd.snd.snd.snd.snd.fst)]), (3, .box 3 [.int .i64 (v26.snd.snd.snd.snd.snd.snd.snd.snd.fst)]), (4, .box 3 [.int .i64 (v26.snd.snd.snd.snd.snd.snd.snd.snd.snd.fst)]), (5, .box 23 [.int .i64 (v26.snd.snd.snd.snd.snd.snd.snd.snd.snd.snd.fst), .int .i64 (v26.snd.snd.snd.snd.snd.snd.snd.snd.snd.snd.snd.fst), .int .i64 (v26.snd.snd.snd.snd.snd.snd.snd.snd.snd.snd.snd.snd)]), (6, .box 47 [.int .i64 (a0), .int .i64 (a1), .int .i64 (a2), .int .i64 (a3), .int .i64 (a4), .int .i64 (a5), .int .i64 (a6), .int .i64 (a7), .int .i64 (a8), .int .i64 (a9), .int .i64 (a10), .int .i64 (a11), .sl (a12) 48 (a13), .sl (a14) 21 (a15), .int .i64 (a16), .int .i64 (a17), .int .i64 (a18), .int .i64 (a19), .int .i64 (a20), .int .i64 (a21), .int .i64 (a22), .int .i64 (a23)]), (7, .box 23 [.int .i64 (a24), .int .i64 (a25), .int .i64 (a26)]), (8, .box 52 [.sl (a27) 81 (a28)]), (9, .box 52 [.own 13]), (10, .box 3 [.int .i64 (v17.fst)]), (11, .box 3 [.int .i64 (v19.fst)]), (12, .box 81 [.int .i8 (v27)]), (13, .arr true 81 (v19.snd.fst) (v19.snd.snd))], 14, [], []⟩) _ ⟨fun _ => rfl, fun _ => (And.intro (Exists.intro _ rfl) (And.intro (Exists.intro _ rfl) (And.intro (Exists.intro _ rfl) (And.intro (Exists.intro _ rfl) trivial)))), rfl, rfl, leB rfl, fun _ => leB rfl, fun _ => rfl, fun _ => ⟨rfl, rfl⟩, rfl, by decide +kernel, by decide +kernel⟩ (it_window_Taps_2 hN) (fun _ => rfl) (W.bindE h) (Weak.a ?_) (fun v28 v27 Q h => ?_) (fun v29 h => ?_)
            · conv => whnf
              exact ⟨rfl, rfl, rfl, rfl, rfl⟩
            · conv => whnf
              refine XDraw.d [0, 1, 2, 3, 4, 5, 6, 7, 8, 9, 10, 11] [[], [], [], [], [], [], [], [], [], [], [], [12]] (by decide +kernel) ?_
              conv => whnf
              refine XNeed.mk (XNeed.c h) ?_; replace h := XNeed.x h
              conv => whnf
              refine ⟨_, Weak.a ?_, h⟩; (conv => whnf); exact ⟨rfl, rfl, rfl, rfl, rfl⟩
            · conv => whnf
              refine ⟨_, Weak.a ?_, h⟩; (conv => whnf); exact ⟨rfl, rfl, rfl, rfl, rfl⟩
        · conv => whnf
          refine XDraw.d [0, 1, 2, 3, 4, 5, 6, 7] [[], [], [], [10], [], [], [9], [5]] (by decide +kernel) ?_
          conv => whnf
          refine ACalls.inn (c_plain_home (W.bindE h) (fun v30 h => ?_)) ⟨rfl, rfl⟩
          conv => whnf
          refine XNeed.mk (XNeed.c h) ?_; replace h := XNeed.x h
          conv => whnf
          refine ⟨_, Weak.a ?_, h⟩; (conv => whnf); exact ⟨rfl, rfl, rfl, rfl, rfl⟩
      · replace h := XSplit.f h e
        conv => whnf
        refine ⟨_, ?_, Weak.a ?_, h⟩; exact rfl; (conv => whnf); exact ⟨rfl, rfl, rfl, rfl, rfl⟩
    · conv => whnf
      refine ⟨_, Weak.a ?_, h⟩; (conv => whnf); exact ⟨rfl, rfl, rfl, rfl, rfl⟩
  · conv => whnf
    refine ⟨_, Weak.a ?_, ?_, h⟩; (conv => whnf); exact ⟨rfl, rfl, rfl, rfl, rfl⟩; exact rfl
theorem c_plain_each {a0 : Int} {a1 : Int} {a2 : Int} {a3 : Int} {a4 : Int} {a5 : Int} {a6 : Int} {a7 : Int} {a8 : Int} {a9 : Int} {a10 : Int} {a11 : Int} {a12 : Bool} {a13 : Rws} {a14 : Bool} {a15 : Rws} {a16 : Int} {a17 : Int} {a18 : Int} {a19 : Int} {a20 : Int} {a21 : Int} {a22 : Int} {a23 : Int} {a24 : Bool} {a25 : Rws} {a26 : Bool} {a27 : Rws} {Q : Bool × Rws → Prop} {R : AV → List AB → Prop} (h : (g_plain_each a0 a1 a2 a3 a4 a5 a6 a7 a8 a9 a10 a11 a12 a13 a14 a15 a16 a17 a18 a19 a20 a21 a22 a23 a24 a25 a26 a27).run Q) (k : ∀ r, Q r → R (.own 0) ([.arr true 81 (r.fst) (r.snd)])) : ACalls Try.prog tab 44 [.agg [.int .i64 (a0), .int .i64 (a1), .int .i64 (a2), .int .i64 (a3), .int .i64 (a4), .int .i64 (a5), .int .i64 (a6), .int .i64 (a7), .int .i64 (a8), .int .i64 (a9), .int .i64 (a10), .int .i64 (a11), .sl (a12) 48 (a13), .sl (a14) 21 (a15), .int .i64 (a16), .int .i64 (a17), .int .i64 (a18), .int .i64 (a19), .int .i64 (a20), .int .i64 (a21), .int .i64 (a22), .int .i64 (a23)], .sl (a24) 81 (a25), .sl (a26) 81 (a27)] [] R := by
  refine ACalls.out (fun r => .own 0) (fun r => [.arr true 81 (r.fst) (r.snd)]) (Q := Q) (ACalls.introX (mv := mv) tab_ok mixed_ (fn := Try.f44) (by kernel_rfl) rfl (by kernel_rfl) (by kernel_rfl) (leB rfl) ?_) (fun v => by first | exact ⟨rfl, leB rfl⟩ | (cases v <;> exact ⟨rfl, leB rfl⟩)) k
  conv => whnf
  refine XNeed.mk (XNeed.c h) ?_; replace h := XNeed.x h
  conv => whnf
  refine ASeq.go tab_ok mixed_ ?_
  conv => whnf
  refine ALoop.ofW tab_ok mixed_ (fun v7 => ⟨[(1, .sl (a24) 81 (a25)), (2, .sl (a26) 81 (a27)), (3, .ptr 0 0), (6, .nils), (7, .own 1), (16, .int .i64 ((↑(List.length a25) : Int))), (17, .int .i64 (v7.fst))], [(0, .box 47 [.int .i64 (a0), .int .i64 (a1), .int .i64 (a2), .int .i64 (a3), .int .i64 (a4), .int .i64 (a5), .int .i64 (a6), .int .i64 (a7), .int .i64 (a8), .int .i64 (a9), .int .i64 (a10), .int .i64 (a11), .sl (a12) 48 (a13), .sl (a14) 21 (a15), .int .i64 (a16), .int .i64 (a17), .int .i64 (a18), .int .i64 (a19), .int .i64 (a20), .int .i64 (a21), .int .i64 (a22), .int .i64 (a23)]), (1, .arr true 81 (false) (v7.snd))], 2, [], []⟩) (fun v8 => (.exit 0, ⟨[(6, .nils), (7, .own 0)], [(0, .arr true 81 (false) (v8))], 1, [], []⟩)) (W.bindE h) (Weak.a ?_) (fun v7 J_ Q h => ?_) (fun v8 h => ?_)
  · conv => whnf
    exact ⟨rfl, rfl, rfl, rfl, rfl⟩
  · conv => whnf
    refine ASeq.go tab_ok mixed_ ?_
    conv => whnf
    refine XSplit.mk (fun e => ?_) (fun e => ?_)
    · replace h := XSplit.t h e
      conv => whnf
      refine ASeq.go tab_ok mixed_ ?_
      conv => whnf
      refine XNeed.mk (XNeed.c h) ?_; replace h := XNeed.x h
      conv => whnf
      refine ASeq.joinW tab_ok mixed_ (fun v9 => ⟨[(1, .sl (a24) 81 (a25)), (2, .sl (a26) 81 (a27)), (3, .ptr 0 0), (6, .nils), (7, .own 1), (8, .int .i64 (v7.fst)), (9, .int .i64 (v9)), (16, .int .i64 ((↑(List.length a25) : Int))), (17, .int .i64 (v7.fst)), (18, .bool (decide (v7.fst < (↑(List.length a25) : Int)))), (19, .int .i64 (v7.fst)), (20, .sl (a24) 81 (a25)), (21, .int .i64 (v7.fst)), (22, .rel 81 (a25) (v7.fst.toNat) 0), (23, .int .i8 (ri a25 v7.fst.toNat 0)), (24, .int .i64 (IntKind.i64.wrap (ri a25 v7.fst.toNat 0))), (25, .ptr 0 0), (26, .int .i64 (a0)), (27, .bool (a0 != 8))], [(0, .box 47 [.int .i64 (a0), .int .i64 (a1), .int .i64 (a2), .int .i64 (a3), .int .i64 (a4), .int .i64 (a5), .int .i64 (a6), .int .i64 (a7), .int .i64 (a8), .int .i64 (a9), .int .i64 (a10), .int .i64 (a11), .sl (a12) 48 (a13), .sl (a14) 21 (a15), .int .i64 (a16), .int .i64 (a17), .int .i64 (a18), .int .i64 (a19), .int .i64 (a20), .int .i64 (a21), .int .i64 (a22), .int .i64 (a23)]), (1, .arr true 81 (false) (v7.snd))], 2, [], []⟩) h (fun Q h => ?_) (fun v9 h => ?_)
      · conv => whnf
        refine XSplit.mk (fun e => ?_) (fun e => ?_)
        · replace h := XSplit.t h e
          conv => whnf
          refine ACalls.inn (c_fixq_Apply (W.bindE h) (fun v10 h => ?_)) ⟨rfl, rfl⟩
          conv => whnf
          refine ⟨_, Weak.a ?_, h⟩; (conv => whnf); exact ⟨rfl, rfl, rfl, rfl, rfl⟩
        · replace h := XSplit.f h e
          conv => whnf
          refine ⟨_, Weak.a ?_, h⟩; (conv => whnf); exact ⟨rfl, rfl, rfl, rfl, rfl⟩
      · conv => whnf
        refine ASeq.joinW tab_ok mixed_ (fun v11 => ⟨[(1, .sl (a24) 81 (a25)), (2, .sl (a26) 81 (a27)), (3, .ptr 0 0), (6, .nils), (7, .own 1), (8, .int .i64 (v7.fst)), (9, .int .i64 (v11)), (16, .int .i64 ((↑(List.length a25) : Int))), (17, .int .i64 (v7.fst)), (18, .bool (decide (v7.fst < (↑(List.length a25) : Int)))), (19, .int .i64 (v7.fst)), (20, .sl (a24) 81 (a25)), (21, .int .i64 (v7.fst)), (22, .rel 81 (a25) (v7.fst.toNat) 0), (23, .int .i8 (ri a25 v7.fst.toNat 0)), (24, .int .i64 (IntKind.i64.wrap (ri a25 v7.fst.toNat 0))), (25, .ptr 0 0), (26, .int .i64 (a0)), (27, .bool (a0 != 8)), (35, .ptr 0 0), (36, .int .i64 (a0)), (37, .bool (a0 == 6))], [(0, .box 47 [.int .i64 (a0), .int .i64 (a1), .int .i64 (a2), .int .i64 (a3), .int .i64 (a4), .int .i64 (a5), .int .i64 (a6), .int .i64 (a7), .int .i64 (a8), .int .i64 (a9), .int .i64 (a10), .int .i64 (a11), .sl (a12) 48 (a13), .sl (a14) 21 (a15), .int .i64 (a16), .int .i64 (a17), .int .i64 (a18), .int .i64 (a19), .int .i64 (a20), .int .i64 (a21), .int .i64 (a22), .int .i64 (a23)]), (1, .arr true 81 (false) (v7.snd))], 2, [], []⟩) h (fun Q h => ?_) (fun v11 h => ?_)
        · conv => whnf
          refine XSplit.mk (fun e => ?_) (fun e => ?_)
          · replace h := XSplit.t h e
            conv => whnf
            refine XDraw.d [0, 1, 2, 3, 4, 5, 6, 7, 8, 9, 10, 11, 12] [[], [], [], [], [2], [], [], [2], [], [], [], [], []] (by decide +kernel) ?_
            conv => whnf
            refine XNeed.mk (XNeed.c h) ?_; replace h := XNeed.x h
            conv => whnf
            refine ACalls.inn (c_fixq_Apply (W.bindE h) (fun v12 h => ?_)) ⟨rfl, rfl⟩
            conv => whnf
            refine ⟨_, Weak.a ?_, h⟩; (conv => whnf); exact ⟨rfl, rfl, rfl, rfl, rfl⟩
          · replace h := XSplit.f h e
            conv => whnf
            refine ⟨_, Weak.a ?_, h⟩; (conv => whnf); exact ⟨rfl, rfl, rfl, rfl, rfl⟩
        · conv => whnf
          refine ACalls.inn (c_plain_home (W.bindE h) (fun v13 h => ?_)) ⟨rfl, rfl⟩
          conv => whnf
          refine XNeed.mk (XNeed.c h) ?_; replace h := XNeed.x h
          conv => whnf
          refine ⟨_, Weak.a ?_, h⟩; (conv => whnf); exact ⟨rfl, rfl, rfl, rfl, rfl⟩
    · replace h := XSplit.f h e
      conv => whnf
      refine ⟨_, ?_, Weak.a ?_, h⟩; exact rfl; (conv => whnf); exact ⟨rfl, rfl, rfl, rfl, rfl⟩
  · conv => whnf
    refine ⟨_, Weak.a ?_, ?_, h⟩; (conv => whnf); exact ⟨rfl, rfl, rfl, rfl, rfl⟩; exact rfl
theorem c_plain_Tensors {a0 : Int} {a1 : Int} {a2 : Int} {a3 : Int} {a4 : Int} {a5 : Bool} {a6 : Rws} {a7 : Int} {a8 : Bool} {a9 : Rws} {Q : Int × Int × Int × Bool × Rws → Prop} {R : AV → List AB → Prop} (h : (g_plain_Tensors a0 a1 a2 a3 a4 a5 a6 a7 a8 a9).run Q) (k : ∀ r, Q r → R (.tup [.own 0, .agg [.int .i64 (r.fst), .int .i64 (r.snd.fst), .int .i64 (r.snd.snd.fst)]]) ([.arr true 52 (r.snd.snd.snd.fst) (r.snd.snd.snd.snd)])) : ACalls Try.prog tab 29 [.agg [.int .i64 (a0), .int .i64 (a1), .int .i64 (a2), .int .i64 (a3), .int .i64 (a4), .sl (a5) 47 (a6), .int .i64 (a7)], .sl (a8) 81 (a9)] [] R := by
  refine ACalls.out (fun r => .tup [.own 0, .agg [.int .i64 (r.fst), .int .i64 (r.snd.fst), .int .i64 (r.snd.snd.fst)]]) (fun r => [.arr true 52 (r.snd.snd.snd.fst) (r.snd.snd.snd.snd)]) (Q := Q) (ACalls.introX (mv := mv) tab_ok mixed_ (fn := Try.f29) (by kernel_rfl) rfl (by kernel_rfl) (by kernel_rfl) (leB rfl) ?_) (fun v => by first | exact ⟨rfl, leB rfl⟩ | (cases v <;> exact ⟨rfl, leB rfl⟩)) k
  conv => whnf
  refine ACalls.inn (c_model_Shapes (W.bindE h) (fun v11 h => ?_)) ⟨rfl, rfl⟩
  conv => whnf
  refine ASeq.go tab_ok mixed_ ?_
  conv => whnf
  refine XSplit.mk (fun e => ?_) (fun e => ?_)
  · replace h := XSplit.t h e
    conv => whnf
    refine XDraw.d [0, 1, 2] [[], [], [1]] (by decide +kernel) ?_
    conv => whnf
    refine ⟨_, Weak.a ?_, ?_, h⟩; (conv => whnf); exact ⟨rfl, rfl, rfl, rfl, rfl⟩; exact rfl
  · replace h := XSplit.f h e
    conv => whnf
    refine ASeq.go tab_ok mixed_ ?_
    conv => whnf
    refine ASeq.joinW tab_ok mixed_ (fun v12 => ⟨[(1, .sl (a8) 81 (a9)), (2, .ptr 0 0), (4, .nils), (5, .ptr 1 0), (6, .own 2), (41, .bool (v12))], [(0, .box 26 [.int .i64 (a0), .int .i64 (a1), .int .i64 (a2), .int .i64 (a3), .int .i64 (a4), .sl (a5) 47 (a6), .int .i64 (a7)]), (1, .box 31 [.int .i64 (0), .int .i64 (0), .int .i64 (0)]), (2, .arr true 23 (v11.snd.snd.snd.fst) (v11.snd.snd.snd.snd))], 3, [], []⟩) h (fun Q h => ?_) (fun v12 h => ?_)
    · conv => whnf
      refine XSplit.mk (fun e => ?_) (fun e => ?_)
      · replace h := XSplit.t h e
        conv => whnf
        refine ⟨_, Weak.a ?_, h⟩; (conv => whnf); exact ⟨rfl, rfl, rfl, rfl, rfl⟩
      · replace h := XSplit.f h e
        conv => whnf
        refine ACalls.inn (c_slices_ContainsFunc___int8_int8___plain_Tensors_1 (W.bindE h) (fun v13 h => ?_)) ⟨rfl, rfl⟩
        conv => whnf
        refine ⟨_, Weak.a ?_, h⟩; (conv => whnf); exact ⟨rfl, rfl, rfl, rfl, rfl⟩
    · conv => whnf
      refine XSplit.mk (fun e => ?_) (fun e => ?_)
      · replace h := XSplit.t h e
        conv => whnf
        refine ⟨_, Weak.a ?_, ?_, h⟩; (conv => whnf); exact ⟨rfl, rfl, rfl, rfl, rfl⟩; exact rfl
      · replace h := XSplit.f h e
        conv => whnf
        refine ACalls.inn (c_slices_Clone___int8_int8_ (W.bindE h) (fun v14 h => ?_)) ⟨rfl, rfl⟩
        conv => whnf
        refine ASeq.go tab_ok mixed_ ?_
        conv => whnf
        refine ALoop.ofW tab_ok mixed_ (fun v15 => ⟨[(2, .ptr 0 0), (4, .nils), (5, .ptr 1 0), (6, .own 2), (9, .own 3), (47, .sl (a5) 47 (a6)), (48, .int .i64 ((↑(List.length a6) : Int))), (49, .int .i64 (v15.fst))], [(0, .box 26 [.int .i64 (a0), .int .i64 (a1), .int .i64 (a2), .int .i64 (a3), .int .i64 (a4), .sl (a5) 47 (a6), .int .i64 (a7)]), (1, .box 31 [.int .i64 (0), .int .i64 (0), .int .i64 (0)]), (2, .arr true 23 (v11.snd.snd.snd.fst) (v11.snd.snd.snd.snd)), (3, .arr true 52 (false) (v15.snd))], 4, [], []⟩) (fun v16 => (.exit 0, ⟨[(4, .nils), (5, .ptr 0 0), (9, .own 1)], [(0, .box 31 [.int .i64 (0), .int .i64 (0), .int .i64 (0)]), (1, .arr true 52 (false) (v16))], 2, [], []⟩)) (W.bindE h) (Weak.a ?_) (fun v15 J_ Q h => ?_) (fun v16 h => ?_)
        · conv => whnf
          exact ⟨rfl, rfl, rfl, rfl, rfl⟩
        · conv => whnf
          refine ASeq.go tab_ok mixed_ ?_
          conv => whnf
          refine XSplit.mk (fun e => ?_) (fun e => ?_)
          · replace h := XSplit.t h e
            conv => whnf
            refine ASeq.go tab_ok mixed_ ?_
            conv => whnf
            refine XNeed.mk (XNeed.c h) ?_; replace h := XNeed.x h
            conv => whnf
            refine ASeq.joinW tab_ok mixed_ (fun v17 => ⟨[(2, .ptr 0 0), (4, .nils), (5, .ptr 1 0), (6, .own 2), (9, .own 3), (10, .int .i64 (v15.fst)), (11, .ptr 4 0), (12, .own 5), (47, .sl (a5) 47 (a6)), (48, .int .i64 ((↑(List.length a6) : Int))), (49, .int .i64 (v15.fst)), (50, .bool (decide (v15.fst < (↑(List.length a6) : Int)))), (51, .int .i64 (v15.fst)), (52, .rel 47 (a6) (v15.fst.toNat) 0), (53, .agg [.int .i64 (ri a6 v15.fst.toNat 0), .int .i64 (ri a6 v15.fst.toNat 1), .int .i64 (ri a6 v15.fst.toNat 2), .int .i64 (ri a6 v15.fst.toNat 3), .int .i64 (ri a6 v15.fst.toNat 4), .int .i64 (ri a6 v15.fst.toNat 5), .int .i64 (ri a6 v15.fst.toNat 6), .int .i64 (ri a6 v15.fst.toNat 7), .int .i64 (ri a6 v15.fst.toNat 8), .int .i64 (ri a6 v15.fst.toNat 9), .int .i64 (ri a6 v15.fst.toNat 10), .int .i64 (ri a6 v15.fst.toNat 11), .sl (rn a6 v15.fst.toNat 12) 48 (rr a6 v15.fst.toNat 12), .sl (rn a6 v15.fst.toNat 13) 21 (rr a6 v15.fst.toNat 13), .int .i64 (ri a6 v15.fst.toNat 14), .int .i64 (ri a6 v15.fst.toNat 15), .int .i64 (ri a6 v15.fst.toNat 16), .int .i64 (ri a6 v15.fst.toNat 17), .int .i64 (ri a6 v15.fst.toNat 18), .int .i64 (ri a6 v15.fst.toNat 19), .int .i64 (ri a6 v15.fst.toNat 20), .int .i64 (ri a6 v15.fst.toNat 21)]), (66, .bool (v17.fst)), (67, .ptr 4 0), (68, .int .i64 (ri a6 v15.fst.toNat 0)), (69, .bool (v17.snd.fst))], [(0, .box 26 [.int .i64 (a0), .int .i64 (a1), .int .i64 (a2), .int .i64 (a3), .int .i64 (a4), .sl (a5) 47 (a6), .int .i64 (a7)]), (1, .box 31 [.int .i64 (0), .int .i64 (0), .int .i64 (0)]), (2, .arr true 23 (v11.snd.snd.snd.fst) (v11.snd.snd.snd.snd)), (3, .arr true 52 (false) (v15.snd)), (4, .box 47 [.int .i64 (ri a6 v15.fst.toNat 0), .int .i64 (ri a6 v15.fst.toNat 1), .int .i64 (ri a6 v15.fst.toNat 2), .int .i64 (ri a6 v15.fst.toNat 3), .int .i64 (ri a6 v15.fst.toNat 4), .int .i64 (ri a6 v15.fst.toNat 5), .int .i64 (ri a6 v15.fst.toNat 6), .int .i64 (ri a6 v15.fst.toNat 7), .int .i64 (ri a6 v15.fst.toNat 8), .int .i64 (ri a6 v15.fst.toNat 9), .int .i64 (ri a6 v15.fst.toNat 10), .int .i64 (ri a6 v15.fst.toNat 11), .sl (rn a6 v15.fst.toNat 12) 48 (rr a6 v15.fst.toNat 12), .sl (rn a6 v15.fst.toNat 13) 21 (rr a6 v15.fst.toNat 13), .int .i64 (ri a6 v15.fst.toNat 14), .int .i64 (ri a6 v15.fst.toNat 15), .int .i64 (ri a6 v15.fst.toNat 16), .int .i64 (ri a6 v15.fst.toNat 17), .int .i64 (ri a6 v15.fst.toNat 18), .int .i64 (ri a6 v15.fst.toNat 19), .int .i64 (ri a6 v15.fst.toNat 20), .int .i64 (ri a6 v15.fst.toNat 21)]), (5, .arr true 81 (v17.snd.snd.fst) (v17.snd.snd.snd))], 6, [], []⟩) h (fun Q h => ?_) (fun v17 h => ?_)
            · conv => whnf
              refine ACalls.inn (c_model_Reduces (W.bindE h) (fun v18 h => ?_)) ⟨rfl, rfl⟩
              conv => whnf
              refine XSplit.mk (fun e => ?_) (fun e => ?_)
              · replace h := XSplit.t h e
                conv => whnf
                refine XDraw.d [0, 1, 2, 3, 4, 5, 6, 7, 8, 9] [[], [], [], [], [], [], [], [], [5, 5], []] (by decide +kernel) ?_
                conv => whnf
                refine XNeed.mk (XNeed.c h) ?_; replace h := XNeed.x h
                conv => whnf
                refine ACalls.inn (c_plain_reduce (W.bindE h) (fun v19 h => ?_)) ⟨rfl, rfl⟩
                conv => whnf
                refine ⟨_, Weak.a ?_, h⟩; (conv => whnf); exact ⟨rfl, rfl, rfl, rfl, rfl⟩
              · replace h := XSplit.f h e
                conv => whnf
                refine XSplit.mk (fun e => ?_) (fun e => ?_)
                · replace h := XSplit.t h e
                  conv => whnf
                  refine XDraw.d [0, 1, 2, 3, 4, 5, 6, 7, 8, 9, 10, 11, 12] [[], [], [], [], [], [], [], [], [], [], [], [5, 5], []] (by decide +kernel) ?_
                  conv => whnf
                  refine XNeed.mk (XNeed.c h) ?_; replace h := XNeed.x h
                  conv => whnf
                  refine XNeed.mk (XNeed.c h) ?_; replace h := XNeed.x h
                  conv => whnf
                  refine ACalls.inn (c_plain_greatest (W.bindE h) (fun v20 h => ?_)) ⟨rfl, rfl⟩
                  conv => whnf
                  refine ⟨_, Weak.a ?_, h⟩; (conv => whnf); exact ⟨rfl, rfl, rfl, rfl, rfl⟩
                · replace h := XSplit.f h e
                  conv => whnf
                  refine XDraw.d [0, 1, 2, 3, 4, 5, 6, 7, 8, 9, 10, 11, 12] [[], [], [], [], [], [], [], [], [], [], [], [5, 5], []] (by decide +kernel) ?_
                  conv => whnf
                  refine XNeed.mk (XNeed.c h) ?_; replace h := XNeed.x h
                  conv => whnf
                  refine XNeed.mk (XNeed.c h) ?_; replace h := XNeed.x h
                  conv => whnf
                  refine ACalls.inn (c_plain_each (W.bindE h) (fun v21 h => ?_)) ⟨rfl, rfl⟩
                  conv => whnf
                  refine ⟨_, Weak.a ?_, h⟩; (conv => whnf); exact ⟨rfl, rfl, rfl, rfl, rfl⟩
            · conv => whnf
              refine XNeed.mk (XNeed.c h) ?_; replace h := XNeed.x h
              conv => whnf
              refine ⟨_, Weak.a ?_, h⟩; (conv => whnf); exact ⟨rfl, rfl, rfl, rfl, rfl⟩
          · replace h := XSplit.f h e
            conv => whnf
            refine ⟨_, ?_, Weak.a ?_, h⟩; exact rfl; (conv => whnf); exact ⟨rfl, rfl, rfl, rfl, rfl⟩
        · conv => whnf
          refine ⟨_, Weak.a ?_, ?_, h⟩; (conv => whnf); exact ⟨rfl, rfl, rfl, rfl, rfl⟩; exact rfl
theorem c_plain_Eval {a0 : Int} {a1 : Int} {a2 : Int} {a3 : Int} {a4 : Int} {a5 : Bool} {a6 : Rws} {a7 : Int} {a8 : Bool} {a9 : Rws} {Q : Bool × Rws × Int × Int × Int → Prop} {R : AV → List AB → Prop} (h : (g_plain_Eval a0 a1 a2 a3 a4 a5 a6 a7 a8 a9).run Q) (k : ∀ r, Q r → R (.tup [.sl (r.fst) 81 (r.snd.fst), .agg [.int .i64 (r.snd.snd.fst), .int .i64 (r.snd.snd.snd.fst), .int .i64 (r.snd.snd.snd.snd)]]) ([])) : ACalls Try.prog tab 18 [.agg [.int .i64 (a0), .int .i64 (a1), .int .i64 (a2), .int .i64 (a3), .int .i64 (a4), .sl (a5) 47 (a6), .int .i64 (a7)], .sl (a8) 81 (a9)] [] R := by
  refine ACalls.out (fun r => .tup [.sl (r.fst) 81 (r.snd.fst), .agg [.int .i64 (r.snd.snd.fst), .int .i64 (r.snd.snd.snd.fst), .int .i64 (r.snd.snd.snd.snd)]]) (fun r => []) (Q := Q) (ACalls.introX (mv := mv) tab_ok mixed_ (fn := Try.f18) (by kernel_rfl) rfl (by kernel_rfl) (by kernel_rfl) (leB rfl) ?_) (fun v => by first | exact ⟨rfl, leB rfl⟩ | (cases v <;> exact ⟨rfl, leB rfl⟩)) k
  conv => whnf
  refine ACalls.inn (c_plain_Tensors (W.bindE h) (fun v1 h => ?_)) ⟨rfl, rfl⟩
  conv => whnf
  refine ASeq.go tab_ok mixed_ ?_
  conv => whnf
  refine XSplit.mk (fun e => ?_) (fun e => ?_)
  · replace h := XSplit.t h e
    conv => whnf
    refine XDraw.d [0, 1, 2] [[], [], [1]] (by decide +kernel) ?_
    conv => whnf
    refine ⟨_, Weak.a ?_, ?_, h⟩; (conv => whnf); exact ⟨rfl, rfl, rfl, rfl, rfl⟩; exact rfl
  · replace h := XSplit.f h e
    conv => whnf
    refine XDraw.d [0, 1, 2, 3, 4, 5, 6, 7] [[], [], [], [], [], [], [], [1]] (by decide +kernel) ?_
    conv => whnf
    refine XNeed.mk (XNeed.c h) ?_; replace h := XNeed.x h
    conv => whnf
    refine ⟨_, Weak.a ?_, ?_, h⟩; (conv => whnf); exact ⟨rfl, rfl, rfl, rfl, rfl⟩; exact rfl
theorem c_ref11_Same {a0 : Bool} {a1 : Rws} {a2 : Bool} {a3 : Rws} {Q : Bool → Prop} {R : AV → List AB → Prop} (h : (g_ref11_Same a0 a1 a2 a3).run Q) (k : ∀ r, Q r → R (.bool (r)) ([])) : ACalls Try.prog tab 19 [.sl (a0) 81 (a1), .sl (a2) 81 (a3)] [] R := by
  refine ACalls.out (fun r => .bool (r)) (fun r => []) (Q := Q) (ACalls.introX (mv := mv) tab_ok mixed_ (fn := Try.f19) (by kernel_rfl) rfl (by kernel_rfl) (by kernel_rfl) (leB rfl) ?_) (fun v => by first | exact ⟨rfl, leB rfl⟩ | (cases v <;> exact ⟨rfl, leB rfl⟩)) k
  conv => whnf
  refine ASeq.go tab_ok mixed_ ?_
  conv => whnf
  refine XSplit.mk (fun e => ?_) (fun e => ?_)
  · replace h := XSplit.t h e
    conv => whnf
    refine ⟨_, Weak.a ?_, ?_, h⟩; (conv => whnf); exact ⟨rfl, rfl, rfl, rfl, rfl⟩; exact rfl
  · replace h := XSplit.f h e
    conv => whnf
    refine ASeq.go tab_ok mixed_ ?_
    conv => whnf
    refine ALoop.ofW tab_ok mixed_ (fun v3 => ⟨[(0, .sl (a0) 81 (a1)), (1, .sl (a2) 81 (a3)), (4, .kb false), (12, .int .i64 ((↑(List.length a1) : Int))), (13, .int .i64 (v3))], [], 0, [], []⟩) (sx (fun v4 => (.ret, ⟨[(4, .kb false)], [], 0, [], []⟩)) (fun v5 => (.exit 0, ⟨[(4, .kb false)], [], 0, [], []⟩))) (W.bindE h) (Weak.a ?_) (fun v3 J_ Q h => ?_) (fun v h => ?_)
    · conv => whnf
      exact ⟨rfl, rfl, rfl, rfl, rfl⟩
    · conv => whnf
      refine ASeq.go tab_ok mixed_ ?_
      conv => whnf
      refine XSplit.mk (fun e => ?_) (fun e => ?_)
      · replace h := XSplit.t h e
        conv => whnf
        refine ASeq.go tab_ok mixed_ ?_
        conv => whnf
        refine XDraw.q [0, 1, 2, 3, 4, 5, 6, 7, 8] (by decide +kernel) ?_
        conv => whnf
        refine XNeed.mk (XNeed.c h) ?_; replace h := XNeed.x h
        conv => whnf
        refine XNeed.mk (XNeed.c h) ?_; replace h := XNeed.x h
        conv => whnf
        refine XSplit.mk (fun e => ?_) (fun e => ?_)
        · replace h := XSplit.t h e
          conv => whnf
          refine ⟨_, ?_, Weak.a ?_, h⟩; exact rfl; (conv => whnf); exact ⟨rfl, rfl, rfl, rfl, rfl⟩
        · replace h := XSplit.f h e
          conv => whnf
          refine ⟨_, Weak.a ?_, h⟩; (conv => whnf); exact ⟨rfl, rfl, rfl, rfl, rfl⟩
      · replace h := XSplit.f h e
        conv => whnf
        refine ⟨_, ?_, Weak.a ?_, h⟩; exact rfl; (conv => whnf); exact ⟨rfl, rfl, rfl, rfl, rfl⟩
    · rcases v with v4 | v5
      · conv => whnf
        refine ⟨_, Weak.a ?_, ?_, h⟩; (conv => whnf); exact ⟨rfl, rfl, rfl, rfl, rfl⟩; exact rfl
      · conv => whnf
        refine ⟨_, Weak.a ?_, ?_, h⟩; (conv => whnf); exact ⟨rfl, rfl, rfl, rfl, rfl⟩; exact rfl
theorem c_law24_TrimSame {a0 : Int} {a1 : Int} {a2 : Int} {a3 : Int} {a4 : Int} {a5 : Bool} {a6 : Rws} {a7 : Int} {a8 : Bool} {a9 : Rws} {Q : Bool → Prop} {R : AV → List AB → Prop} (h : (g_law24_TrimSame a0 a1 a2 a3 a4 a5 a6 a7 a8 a9).run Q) (k : ∀ r, Q r → R (.bool (r)) ([])) : ACalls Try.prog tab 6 [.agg [.int .i64 (a0), .int .i64 (a1), .int .i64 (a2), .int .i64 (a3), .int .i64 (a4), .sl (a5) 47 (a6), .int .i64 (a7)], .sl (a8) 81 (a9)] [] R := by
  refine ACalls.out (fun r => .bool (r)) (fun r => []) (Q := Q) (ACalls.introX (mv := mv) tab_ok mixed_ (fn := Try.f6) (by kernel_rfl) rfl (by kernel_rfl) (by kernel_rfl) (leB rfl) ?_) (fun v => by first | exact ⟨rfl, leB rfl⟩ | (cases v <;> exact ⟨rfl, leB rfl⟩)) k
  conv => whnf
  refine ASeq.go tab_ok mixed_ ?_
  conv => whnf
  refine ACalls.inn (c_law24_fixed (W.bindE h) (fun v6 h => ?_)) ⟨rfl, rfl⟩
  conv => whnf
  refine XSplit.mk (fun e => ?_) (fun e => ?_)
  · replace h := XSplit.t h e
    conv => whnf
    refine ⟨_, Weak.a ?_, ?_, h⟩; (conv => whnf); exact ⟨rfl, rfl, rfl, rfl, rfl⟩; exact rfl
  · replace h := XSplit.f h e
    conv => whnf
    refine ACalls.inn (c_trim_Trim (W.bindE h) (fun v7 h => ?_)) ⟨rfl, rfl⟩
    conv => whnf
    refine ACalls.inn (c_plain_Eval (W.bindE h) (fun v8 h => ?_)) ⟨rfl, rfl⟩
    conv => whnf
    refine ASeq.go tab_ok mixed_ ?_
    conv => whnf
    refine XSplit.mk (fun e => ?_) (fun e => ?_)
    · replace h := XSplit.t h e
      conv => whnf
      refine ⟨_, Weak.a ?_, ?_, h⟩; (conv => whnf); exact ⟨rfl, rfl, rfl, rfl, rfl⟩; exact rfl
    · replace h := XSplit.f h e
      conv => whnf
      refine ACalls.inn (c_plain_Eval (W.bindE h) (fun v9 h => ?_)) ⟨rfl, rfl⟩
      conv => whnf
      refine ASeq.joinW tab_ok mixed_ (fun v10 => ⟨[(4, .bool (v10))], [], 0, [], []⟩) h (fun Q h => ?_) (fun v10 h => ?_)
      · conv => whnf
        refine XSplit.mk (fun e => ?_) (fun e => ?_)
        · replace h := XSplit.t h e
          conv => whnf
          refine ACalls.inn (c_ref11_Same (W.bindE h) (fun v11 h => ?_)) ⟨rfl, rfl⟩
          conv => whnf
          refine ⟨_, Weak.a ?_, h⟩; (conv => whnf); exact ⟨rfl, rfl, rfl, rfl, rfl⟩
        · replace h := XSplit.f h e
          conv => whnf
          refine ⟨_, Weak.a ?_, h⟩; (conv => whnf); exact ⟨rfl, rfl, rfl, rfl, rfl⟩
      · conv => whnf
        refine ⟨_, Weak.a ?_, ?_, h⟩; (conv => whnf); exact ⟨rfl, rfl, rfl, rfl, rfl⟩; exact rfl
end Go.Proofs.Ytalchibbmkhkpaa.V24
