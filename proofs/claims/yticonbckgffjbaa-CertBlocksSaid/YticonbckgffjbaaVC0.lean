/- The functions are their pure forms. -/
import Derived.Test.YticonbckgffjbaaVS
import Derived.Test.YticonbckgffjbaaVX2
set_option linter.unusedVariables false
set_option linter.unusedSimpArgs false
set_option linter.unusedVariables false
set_option maxRecDepth 100000
set_option maxHeartbeats 0
namespace Go.Proofs.Yticonbckgffjbaa.V15
open Go.Proofs Go.Proofs.Yticonbckgffjbaa.VX
theorem c_law15_one {Q : Int × Int × Int × Int × Int × Int × Bool × Rws × Bool × Rws × Bool × Rws → Prop} {R : AV → List AB → Prop} (h : (g_law15_one).run Q) (k : ∀ r, Q r → R (.agg [.int .i64 (r.fst), .int .i64 (r.snd.fst), .int .i64 (r.snd.snd.fst), .int .i64 (r.snd.snd.snd.fst), .int .i64 (r.snd.snd.snd.snd.fst), .own 0, .int .i64 (r.snd.snd.snd.snd.snd.fst), .own 1, .own 2]) ([.arr true 70 (r.snd.snd.snd.snd.snd.snd.fst) (r.snd.snd.snd.snd.snd.snd.snd.fst), .arr true 59 (r.snd.snd.snd.snd.snd.snd.snd.snd.fst) (r.snd.snd.snd.snd.snd.snd.snd.snd.snd.fst), .arr true 56 (r.snd.snd.snd.snd.snd.snd.snd.snd.snd.snd.fst) (r.snd.snd.snd.snd.snd.snd.snd.snd.snd.snd.snd)])) : ACalls Try.prog tab 27 [] [] R := by
  refine ACalls.out (fun r => .agg [.int .i64 (r.fst), .int .i64 (r.snd.fst), .int .i64 (r.snd.snd.fst), .int .i64 (r.snd.snd.snd.fst), .int .i64 (r.snd.snd.snd.snd.fst), .own 0, .int .i64 (r.snd.snd.snd.snd.snd.fst), .own 1, .own 2]) (fun r => [.arr true 70 (r.snd.snd.snd.snd.snd.snd.fst) (r.snd.snd.snd.snd.snd.snd.snd.fst), .arr true 59 (r.snd.snd.snd.snd.snd.snd.snd.snd.fst) (r.snd.snd.snd.snd.snd.snd.snd.snd.snd.fst), .arr true 56 (r.snd.snd.snd.snd.snd.snd.snd.snd.snd.snd.fst) (r.snd.snd.snd.snd.snd.snd.snd.snd.snd.snd.snd)]) (Q := Q) (ACalls.introX (mv := mv) tab_ok mixed_ (fn := Try.f27) (by kernel_rfl) rfl (by kernel_rfl) (by kernel_rfl) (Nat.le_of_ble_eq_true rfl) ?_) (fun v => by first | exact ⟨rfl, Nat.le_of_ble_eq_true rfl⟩ | (cases v <;> exact ⟨rfl, Nat.le_of_ble_eq_true rfl⟩)) k
  conv => whnf
  refine ⟨_, Weak.a ?_, ?_, h⟩; (conv => whnf); exact ⟨rfl, rfl, rfl, rfl, rfl⟩; exact rfl

theorem c_shape_Elems {a0 : Int} {a1 : Int} {a2 : Int} {Q : Int × Int → Prop} {R : AV → List AB → Prop} (h : (g_shape_Elems a0 a1 a2).run Q) (k : ∀ r, Q r → R (.tup [.int .i64 (r.fst), .int .i64 (r.snd)]) ([])) : ACalls Try.prog tab 48 [.agg [.int .i64 (a0), .int .i64 (a1), .int .i64 (a2)]] [] R := by
  refine ACalls.out (fun r => .tup [.int .i64 (r.fst), .int .i64 (r.snd)]) (fun r => []) (Q := Q) (ACalls.introX (mv := mv) tab_ok mixed_ (fn := Try.f48) (by kernel_rfl) rfl (by kernel_rfl) (by kernel_rfl) (Nat.le_of_ble_eq_true rfl) ?_) (fun v => by first | exact ⟨rfl, Nat.le_of_ble_eq_true rfl⟩ | (cases v <;> exact ⟨rfl, Nat.le_of_ble_eq_true rfl⟩)) k
  conv => whnf
  refine ASeq.go tab_ok mixed_ ?_
  conv => whnf
  refine ALoop.unroll tab_ok mixed_ (kn := fun st => ALoop Try.prog tab _ _ _ _ st _) (fun _ h => h) ?_
  conv => whnf
  refine ASeq.go tab_ok mixed_ ?_
  conv => whnf
  refine XSplit.tt rfl ?_
  conv => whnf
  refine ASeq.go tab_ok mixed_ ?_
  conv => whnf
  refine XNeed.mk (of_decide_eq_true rfl) ?_
  conv => whnf
  refine ASeq.go tab_ok mixed_ ?_
  conv => whnf
  refine XSplit.mk (fun e => ?_) (fun e => ?_)
  · replace h := XSplit.t h e
    conv => whnf
    refine ⟨_, Weak.a ?_, ?_, h⟩; (conv => whnf); exact ⟨rfl, rfl, rfl, rfl, rfl⟩; exact rfl
  · replace h := XSplit.f h e
    conv => whnf
    refine ALoop.unroll tab_ok mixed_ (kn := fun st => ALoop Try.prog tab _ _ _ _ st _) (fun _ h => h) ?_
    conv => whnf
    refine ASeq.go tab_ok mixed_ ?_
    conv => whnf
    refine XSplit.tt rfl ?_
    conv => whnf
    refine ASeq.go tab_ok mixed_ ?_
    conv => whnf
    refine XNeed.mk (of_decide_eq_true rfl) ?_
    conv => whnf
    refine ASeq.go tab_ok mixed_ ?_
    conv => whnf
    refine XSplit.mk (fun e => ?_) (fun e => ?_)
    · replace h := XSplit.t h e
      conv => whnf
      refine ⟨_, Weak.a ?_, ?_, h⟩; (conv => whnf); exact ⟨rfl, rfl, rfl, rfl, rfl⟩; exact rfl
    · replace h := XSplit.f h e
      conv => whnf
      refine ALoop.unroll tab_ok mixed_ (kn := fun st => ALoop Try.prog tab _ _ _ _ st _) (fun _ h => h) ?_
      conv => whnf
      refine ASeq.go tab_ok mixed_ ?_
      conv => whnf
      refine XSplit.tt rfl ?_
      conv => whnf
      refine ASeq.go tab_ok mixed_ ?_
      conv => whnf
      refine XNeed.mk (of_decide_eq_true rfl) ?_
      conv => whnf
      refine ASeq.go tab_ok mixed_ ?_
      conv => whnf
      refine XSplit.mk (fun e => ?_) (fun e => ?_)
      · replace h := XSplit.t h e
        conv => whnf
        refine ⟨_, Weak.a ?_, ?_, h⟩; (conv => whnf); exact ⟨rfl, rfl, rfl, rfl, rfl⟩; exact rfl
      · replace h := XSplit.f h e
        conv => whnf
        refine ALoop.unroll tab_ok mixed_ (kn := fun st => ALoop Try.prog tab _ _ _ _ st _) (fun _ h => h) ?_
        conv => whnf
        refine ASeq.go tab_ok mixed_ ?_
        conv => whnf
        refine XSplit.ff rfl ?_
        conv => whnf
        refine ASeq.go tab_ok mixed_ ?_
        conv => whnf
        refine XSplit.mk (fun e => ?_) (fun e => ?_)
        · replace h := XSplit.t h e
          conv => whnf
          refine ⟨_, Weak.a ?_, ?_, h⟩; (conv => whnf); exact ⟨rfl, rfl, rfl, rfl, rfl⟩; exact rfl
        · replace h := XSplit.f h e
          conv => whnf
          refine ⟨_, Weak.a ?_, ?_, h⟩; (conv => whnf); exact ⟨rfl, rfl, rfl, rfl, rfl⟩; exact rfl

theorem c_model_byte8 {a0 : Bool} {a1 : Rws} {Q : Bool → Prop} {R : AV → List AB → Prop} (h : (g_model_byte8 a0 a1).run Q) (k : ∀ r, Q r → R (.bool (r)) ([])) : ACalls Try.prog tab 49 [.sl (a0) 3 (a1)] [] R := by
  refine ACalls.out (fun r => .bool (r)) (fun r => []) (Q := Q) (ACalls.introX (mv := mv) tab_ok mixed_ (fn := Try.f49) (by kernel_rfl) rfl (by kernel_rfl) (by kernel_rfl) (Nat.le_of_ble_eq_true rfl) ?_) (fun v => by first | exact ⟨rfl, Nat.le_of_ble_eq_true rfl⟩ | (cases v <;> exact ⟨rfl, Nat.le_of_ble_eq_true rfl⟩)) k
  conv => whnf
  refine ASeq.go tab_ok mixed_ ?_
  conv => whnf
  refine ALoop.ofW tab_ok mixed_ (fun v3 => ⟨[(2, .kb false), (5, .sl (a0) 3 (a1)), (6, .int .i64 ((↑(List.length a1) : Int))), (7, .int .i64 (v3))], [], 0, [], []⟩) (sx (fun v4 => (.ret, ⟨[(2, .kb false)], [], 0, [], []⟩)) (fun v5 => (.exit 0, ⟨[(2, .kb false)], [], 0, [], []⟩))) (W.bindE h) (Weak.a ?_) (fun v3 J_ Q h => ?_) (fun v h => ?_)
  · conv => whnf
    exact ⟨rfl, rfl, rfl, rfl, rfl⟩
  · conv => whnf
    refine ASeq.go tab_ok mixed_ ?_
    conv => whnf
    refine XSplit.mk (fun e => ?_) (fun e => ?_)
    · replace h := XSplit.t h e
      conv => whnf
      refine ASeq.go tab_ok mixed_ ?_
      conv => whnf
      refine XNeed.mk (XNeed.c h) ?_; replace h := XNeed.x h
      conv => whnf
      refine XSplit.mk (fun e => ?_) (fun e => ?_)
      · replace h := XSplit.t h e
        conv => whnf
        refine ⟨_, ?_, Weak.a ?_, h⟩; exact rfl; (conv => whnf); exact ⟨rfl, rfl, rfl, rfl, rfl⟩
      · replace h := XSplit.f h e
        conv => whnf
        refine ⟨_, Weak.a ?_, h⟩; (conv => whnf); exact ⟨rfl, rfl, rfl, rfl, rfl⟩
    · replace h := XSplit.f h e
      conv => whnf
      refine ⟨_, ?_, Weak.a ?_, h⟩; exact rfl; (conv => whnf); exact ⟨rfl, rfl, rfl, rfl, rfl⟩
  · rcases v with v4 | v5
    · conv => whnf
      refine ⟨_, Weak.a ?_, ?_, h⟩; (conv => whnf); exact ⟨rfl, rfl, rfl, rfl, rfl⟩; exact rfl
    · conv => whnf
      refine ⟨_, Weak.a ?_, ?_, h⟩; (conv => whnf); exact ⟨rfl, rfl, rfl, rfl, rfl⟩; exact rfl

theorem c_model_of {a0 : Int} {Q : Bool × Bool × Bool × Bool × Bool × Bool × Bool × Bool × Bool → Prop} {R : AV → List AB → Prop} (h : (g_model_of a0).run Q) (k : ∀ r, Q r → R (.tup [.agg [.bool (r.fst), .bool (r.snd.fst), .bool (r.snd.snd.fst), .bool (r.snd.snd.snd.fst), .bool (r.snd.snd.snd.snd.fst), .bool (r.snd.snd.snd.snd.snd.fst), .bool (r.snd.snd.snd.snd.snd.snd.fst), .bool (r.snd.snd.snd.snd.snd.snd.snd.fst)], .bool (r.snd.snd.snd.snd.snd.snd.snd.snd)]) ([])) : ACalls Try.prog tab 55 [.int .i64 (a0)] [] R := by
  refine ACalls.out (fun r => .tup [.agg [.bool (r.fst), .bool (r.snd.fst), .bool (r.snd.snd.fst), .bool (r.snd.snd.snd.fst), .bool (r.snd.snd.snd.snd.fst), .bool (r.snd.snd.snd.snd.snd.fst), .bool (r.snd.snd.snd.snd.snd.snd.fst), .bool (r.snd.snd.snd.snd.snd.snd.snd.fst)], .bool (r.snd.snd.snd.snd.snd.snd.snd.snd)]) (fun r => []) (Q := Q) (ACalls.introX (mv := mv) tab_ok mixed_ (fn := Try.f55) (by kernel_rfl) rfl (by kernel_rfl) (by kernel_rfl) (Nat.le_of_ble_eq_true rfl) ?_) (fun v => by first | exact ⟨rfl, Nat.le_of_ble_eq_true rfl⟩ | (cases v <;> exact ⟨rfl, Nat.le_of_ble_eq_true rfl⟩)) k
  conv => whnf
  refine ASeq.go tab_ok mixed_ ?_
  conv => whnf
  refine XSplit.mk (fun e => ?_) (fun e => ?_)
  · replace h := XSplit.t h e
    conv => whnf
    refine ⟨_, Weak.a ?_, ?_, h⟩; (conv => whnf); exact ⟨rfl, rfl, rfl, rfl, rfl⟩; exact rfl
  · replace h := XSplit.f h e
    conv => whnf
    refine XSplit.mk (fun e => ?_) (fun e => ?_)
    · replace h := XSplit.t h e
      conv => whnf
      refine ⟨_, Weak.a ?_, ?_, h⟩; (conv => whnf); exact ⟨rfl, rfl, rfl, rfl, rfl⟩; exact rfl
    · replace h := XSplit.f h e
      conv => whnf
      refine XSplit.mk (fun e => ?_) (fun e => ?_)
      · replace h := XSplit.t h e
        conv => whnf
        refine ⟨_, Weak.a ?_, ?_, h⟩; (conv => whnf); exact ⟨rfl, rfl, rfl, rfl, rfl⟩; exact rfl
      · replace h := XSplit.f h e
        conv => whnf
        refine ASeq.joinW tab_ok mixed_ (fun v1 => ⟨[(2, .ptr 0 0), (3, .kb false), (4, .int .i64 (a0)), (14, .bool (v1))], [(0, .box 113 [.kb false, .kb false, .kb false, .kb false, .kb false, .kb false, .kb false, .kb false])], 1, [], []⟩) h (fun Q h => ?_) (fun v1 h => ?_)
        · conv => whnf
          refine XSplit.mk (fun e => ?_) (fun e => ?_)
          · replace h := XSplit.t h e
            conv => whnf
            refine ⟨_, Weak.a ?_, h⟩; (conv => whnf); exact ⟨rfl, rfl, rfl, rfl, rfl⟩
          · replace h := XSplit.f h e
            conv => whnf
            refine ⟨_, Weak.a ?_, h⟩; (conv => whnf); exact ⟨rfl, rfl, rfl, rfl, rfl⟩
        · conv => whnf
          refine XSplit.mk (fun e => ?_) (fun e => ?_)
          · replace h := XSplit.t h e
            conv => whnf
            refine ⟨_, Weak.a ?_, ?_, h⟩; (conv => whnf); exact ⟨rfl, rfl, rfl, rfl, rfl⟩; exact rfl
          · replace h := XSplit.f h e
            conv => whnf
            refine XSplit.mk (fun e => ?_) (fun e => ?_)
            · replace h := XSplit.t h e
              conv => whnf
              refine ⟨_, Weak.a ?_, ?_, h⟩; (conv => whnf); exact ⟨rfl, rfl, rfl, rfl, rfl⟩; exact rfl
            · replace h := XSplit.f h e
              conv => whnf
              refine XSplit.mk (fun e => ?_) (fun e => ?_)
              · replace h := XSplit.t h e
                conv => whnf
                refine ⟨_, Weak.a ?_, ?_, h⟩; (conv => whnf); exact ⟨rfl, rfl, rfl, rfl, rfl⟩; exact rfl
              · replace h := XSplit.f h e
                conv => whnf
                refine XSplit.mk (fun e => ?_) (fun e => ?_)
                · replace h := XSplit.t h e
                  conv => whnf
                  refine ⟨_, Weak.a ?_, ?_, h⟩; (conv => whnf); exact ⟨rfl, rfl, rfl, rfl, rfl⟩; exact rfl
                · replace h := XSplit.f h e
                  conv => whnf
                  refine ⟨_, Weak.a ?_, ?_, h⟩; (conv => whnf); exact ⟨rfl, rfl, rfl, rfl, rfl⟩; exact rfl

theorem c_model_bare {a0 : Int} {a1 : Int} {a2 : Int} {a3 : Int} {a4 : Int} {a5 : Int} {a6 : Int} {a7 : Int} {a8 : Int} {a9 : Int} {a10 : Int} {a11 : Int} {a12 : Bool} {a13 : Rws} {a14 : Bool} {a15 : Rws} {a16 : Int} {a17 : Int} {a18 : Int} {a19 : Int} {a20 : Int} {a21 : Int} {a22 : Int} {a23 : Int} {a24 : Bool} {a25 : Bool} {a26 : Bool} {a27 : Bool} {a28 : Bool} {a29 : Bool} {a30 : Bool} {a31 : Bool} {Q : Int × Int × Int × Int × Int × Int × Int × Int × Int × Int × Int × Int × Bool × Rws × Bool × Rws × Int × Int × Int × Int × Int × Int × Int × Int → Prop} {R : AV → List AB → Prop} (h : (g_model_bare a0 a1 a2 a3 a4 a5 a6 a7 a8 a9 a10 a11 a12 a13 a14 a15 a16 a17 a18 a19 a20 a21 a22 a23 a24 a25 a26 a27 a28 a29 a30 a31).run Q) (k : ∀ r, Q r → R (.agg [.int .i64 (r.fst), .int .i64 (r.snd.fst), .int .i64 (r.snd.snd.fst), .int .i64 (r.snd.snd.snd.fst), .int .i64 (r.snd.snd.snd.snd.fst), .int .i64 (r.snd.snd.snd.snd.snd.fst), .int .i64 (r.snd.snd.snd.snd.snd.snd.fst), .int .i64 (r.snd.snd.snd.snd.snd.snd.snd.fst), .int .i64 (r.snd.snd.snd.snd.snd.snd.snd.snd.fst), .int .i64 (r.snd.snd.snd.snd.snd.snd.snd.snd.snd.fst), .int .i64 (r.snd.snd.snd.snd.snd.snd.snd.snd.snd.snd.fst), .int .i64 (r.snd.snd.snd.snd.snd.snd.snd.snd.snd.snd.snd.fst), .sl (r.snd.snd.snd.snd.snd.snd.snd.snd.snd.snd.snd.snd.fst) 100 (r.snd.snd.snd.snd.snd.snd.snd.snd.snd.snd.snd.snd.snd.fst), .sl (r.snd.snd.snd.snd.snd.snd.snd.snd.snd.snd.snd.snd.snd.snd.fst) 21 (r.snd.snd.snd.snd.snd.snd.snd.snd.snd.snd.snd.snd.snd.snd.snd.fst), .int .i64 (r.snd.snd.snd.snd.snd.snd.snd.snd.snd.snd.snd.snd.snd.snd.snd.snd.fst), .int .i64 (r.snd.snd.snd.snd.snd.snd.snd.snd.snd.snd.snd.snd.snd.snd.snd.snd.snd.fst), .int .i64 (r.snd.snd.snd.snd.snd.snd.snd.snd.snd.snd.snd.snd.snd.snd.snd.snd.snd.snd.fst), .int .i64 (r.snd.snd.snd.snd.snd.snd.snd.snd.snd.snd.snd.snd.snd.snd.snd.snd.snd.snd.snd.fst), .int .i64 (r.snd.snd.snd.snd.snd.snd.snd.snd.snd.snd.snd.snd.snd.snd.snd.snd.snd.snd.snd.snd.fst), .int .i64 (r.snd.snd.snd.snd.snd.snd.snd.snd.snd.snd.snd.snd.snd.snd.snd.snd.snd.snd.snd.snd.snd.fst), .int .i64 (r.snd.snd.snd.snd.snd.snd.snd.snd.snd.snd.snd.snd.snd.snd.snd.snd.snd.snd.snd.snd.snd.snd.fst), .int .i64 (r.snd.snd.snd.snd.snd.snd.snd.snd.snd.snd.snd.snd.snd.snd.snd.snd.snd.snd.snd.snd.snd.snd.snd)]) ([])) : ACalls Try.prog tab 57 [.agg [.int .i64 (a0), .int .i64 (a1), .int .i64 (a2), .int .i64 (a3), .int .i64 (a4), .int .i64 (a5), .int .i64 (a6), .int .i64 (a7), .int .i64 (a8), .int .i64 (a9), .int .i64 (a10), .int .i64 (a11), .sl (a12) 100 (a13), .sl (a14) 21 (a15), .int .i64 (a16), .int .i64 (a17), .int .i64 (a18), .int .i64 (a19), .int .i64 (a20), .int .i64 (a21), .int .i64 (a22), .int .i64 (a23)], .agg [.bool (a24), .bool (a25), .bool (a26), .bool (a27), .bool (a28), .bool (a29), .bool (a30), .bool (a31)]] [] R := by
  refine ACalls.out (fun r => .agg [.int .i64 (r.fst), .int .i64 (r.snd.fst), .int .i64 (r.snd.snd.fst), .int .i64 (r.snd.snd.snd.fst), .int .i64 (r.snd.snd.snd.snd.fst), .int .i64 (r.snd.snd.snd.snd.snd.fst), .int .i64 (r.snd.snd.snd.snd.snd.snd.fst), .int .i64 (r.snd.snd.snd.snd.snd.snd.snd.fst), .int .i64 (r.snd.snd.snd.snd.snd.snd.snd.snd.fst), .int .i64 (r.snd.snd.snd.snd.snd.snd.snd.snd.snd.fst), .int .i64 (r.snd.snd.snd.snd.snd.snd.snd.snd.snd.snd.fst), .int .i64 (r.snd.snd.snd.snd.snd.snd.snd.snd.snd.snd.snd.fst), .sl (r.snd.snd.snd.snd.snd.snd.snd.snd.snd.snd.snd.snd.fst) 100 (r.snd.snd.snd.snd.snd.snd.snd.snd.snd.snd.snd.snd.snd.fst), .sl (r.snd.snd.snd.snd.snd.snd.snd.snd.snd.snd.snd.snd.snd.snd.fst) 21 (r.snd.snd.snd.snd.snd.snd.snd.snd.snd.snd.snd.snd.snd.snd.snd.fst), .int .i64 (r.snd.snd.snd.snd.snd.snd.snd.snd.snd.snd.snd.snd.snd.snd.snd.snd.fst), .int .i64 (r.snd.snd.snd.snd.snd.snd.snd.snd.snd.snd.snd.snd.snd.snd.snd.snd.snd.fst), .int .i64 (r.snd.snd.snd.snd.snd.snd.snd.snd.snd.snd.snd.snd.snd.snd.snd.snd.snd.snd.fst), .int .i64 (r.snd.snd.snd.snd.snd.snd.snd.snd.snd.snd.snd.snd.snd.snd.snd.snd.snd.snd.snd.fst), .int .i64 (r.snd.snd.snd.snd.snd.snd.snd.snd.snd.snd.snd.snd.snd.snd.snd.snd.snd.snd.snd.snd.fst), .int .i64 (r.snd.snd.snd.snd.snd.snd.snd.snd.snd.snd.snd.snd.snd.snd.snd.snd.snd.snd.snd.snd.snd.fst), .int .i64 (r.snd.snd.snd.snd.snd.snd.snd.snd.snd.snd.snd.snd.snd.snd.snd.snd.snd.snd.snd.snd.snd.snd.fst), .int .i64 (r.snd.snd.snd.snd.snd.snd.snd.snd.snd.snd.snd.snd.snd.snd.snd.snd.snd.snd.snd.snd.snd.snd.snd)]) (fun r => []) (Q := Q) (ACalls.introX (mv := mv) tab_ok mixed_ (fn := Try.f57) (by kernel_rfl) rfl (by kernel_rfl) (by kernel_rfl) (Nat.le_of_ble_eq_true rfl) ?_) (fun v => by first | exact ⟨rfl, Nat.le_of_ble_eq_true rfl⟩ | (cases v <;> exact ⟨rfl, Nat.le_of_ble_eq_true rfl⟩)) k
  conv => whnf
  refine ASeq.joinW tab_ok mixed_ (fun v8 => ⟨[(2, .ptr 0 0), (3, .ptr 1 0), (4, .ptr 2 0)], [(0, .box 70 [.int .i64 (0), .int .i64 (0), .int .i64 (v8), .int .i64 (a3), .int .i64 (a4), .int .i64 (a5), .int .i64 (a6), .int .i64 (a7), .int .i64 (a8), .int .i64 (a9), .int .i64 (a10), .int .i64 (a11), .sl (a12) 100 (a13), .sl (a14) 21 (a15), .int .i64 (a16), .int .i64 (a17), .int .i64 (a18), .int .i64 (a19), .int .i64 (a20), .int .i64 (a21), .int .i64 (0), .int .i64 (0)]), (1, .box 113 [.bool (a24), .bool (a25), .bool (a26), .bool (a27), .bool (a28), .bool (a29), .bool (a30), .bool (a31)]), (2, .box 70 [.int .i64 (0), .int .i64 (0), .int .i64 (0), .int .i64 (0), .int .i64 (0), .int .i64 (0), .int .i64 (0), .int .i64 (0), .int .i64 (0), .int .i64 (0), .int .i64 (0), .int .i64 (0), .nils, .nils, .int .i64 (0), .int .i64 (0), .int .i64 (0), .int .i64 (0), .int .i64 (0), .int .i64 (0), .int .i64 (0), .int .i64 (0)])], 3, [], []⟩) h (fun Q h => ?_) (fun v8 h => ?_)
  · conv => whnf
    refine XSplit.mk (fun e => ?_) (fun e => ?_)
    · replace h := XSplit.t h e
      conv => whnf
      refine ⟨_, Weak.a ?_, h⟩; (conv => whnf); exact ⟨rfl, rfl, rfl, rfl, rfl⟩
    · replace h := XSplit.f h e
      conv => whnf
      refine ⟨_, Weak.a ?_, h⟩; (conv => whnf); exact ⟨rfl, rfl, rfl, rfl, rfl⟩
  · conv => whnf
    refine ASeq.joinW tab_ok mixed_ (fun v9 => ⟨[(2, .ptr 0 0), (3, .ptr 1 0), (4, .ptr 2 0)], [(0, .box 70 [.int .i64 (0), .int .i64 (0), .int .i64 (v8), .int .i64 (v9), .int .i64 (a4), .int .i64 (a5), .int .i64 (a6), .int .i64 (a7), .int .i64 (a8), .int .i64 (a9), .int .i64 (a10), .int .i64 (a11), .sl (a12) 100 (a13), .sl (a14) 21 (a15), .int .i64 (a16), .int .i64 (a17), .int .i64 (a18), .int .i64 (a19), .int .i64 (a20), .int .i64 (a21), .int .i64 (0), .int .i64 (0)]), (1, .box 113 [.bool (a24), .bool (a25), .bool (a26), .bool (a27), .bool (a28), .bool (a29), .bool (a30), .bool (a31)]), (2, .box 70 [.int .i64 (0), .int .i64 (0), .int .i64 (0), .int .i64 (0), .int .i64 (0), .int .i64 (0), .int .i64 (0), .int .i64 (0), .int .i64 (0), .int .i64 (0), .int .i64 (0), .int .i64 (0), .nils, .nils, .int .i64 (0), .int .i64 (0), .int .i64 (0), .int .i64 (0), .int .i64 (0), .int .i64 (0), .int .i64 (0), .int .i64 (0)])], 3, [], []⟩) h (fun Q h => ?_) (fun v9 h => ?_)
    · conv => whnf
      refine XSplit.mk (fun e => ?_) (fun e => ?_)
      · replace h := XSplit.t h e
        conv => whnf
        refine ⟨_, Weak.a ?_, h⟩; (conv => whnf); exact ⟨rfl, rfl, rfl, rfl, rfl⟩
      · replace h := XSplit.f h e
        conv => whnf
        refine ⟨_, Weak.a ?_, h⟩; (conv => whnf); exact ⟨rfl, rfl, rfl, rfl, rfl⟩
    · conv => whnf
      refine ASeq.joinW tab_ok mixed_ (fun v10 => ⟨[(2, .ptr 0 0), (3, .ptr 1 0), (4, .ptr 2 0)], [(0, .box 70 [.int .i64 (0), .int .i64 (0), .int .i64 (v8), .int .i64 (v9), .int .i64 (v10.fst), .int .i64 (v10.snd.fst), .int .i64 (v10.snd.snd.fst), .int .i64 (v10.snd.snd.snd), .int .i64 (a8), .int .i64 (a9), .int .i64 (a10), .int .i64 (a11), .sl (a12) 100 (a13), .sl (a14) 21 (a15), .int .i64 (a16), .int .i64 (a17), .int .i64 (a18), .int .i64 (a19), .int .i64 (a20), .int .i64 (a21), .int .i64 (0), .int .i64 (0)]), (1, .box 113 [.bool (a24), .bool (a25), .bool (a26), .bool (a27), .bool (a28), .bool (a29), .bool (a30), .bool (a31)]), (2, .box 70 [.int .i64 (0), .int .i64 (0), .int .i64 (0), .int .i64 (0), .int .i64 (0), .int .i64 (0), .int .i64 (0), .int .i64 (0), .int .i64 (0), .int .i64 (0), .int .i64 (0), .int .i64 (0), .nils, .nils, .int .i64 (0), .int .i64 (0), .int .i64 (0), .int .i64 (0), .int .i64 (0), .int .i64 (0), .int .i64 (0), .int .i64 (0)])], 3, [], []⟩) h (fun Q h => ?_) (fun v10 h => ?_)
      · conv => whnf
        refine XSplit.mk (fun e => ?_) (fun e => ?_)
        · replace h := XSplit.t h e
          conv => whnf
          refine ⟨_, Weak.a ?_, h⟩; (conv => whnf); exact ⟨rfl, rfl, rfl, rfl, rfl⟩
        · replace h := XSplit.f h e
          conv => whnf
          refine ⟨_, Weak.a ?_, h⟩; (conv => whnf); exact ⟨rfl, rfl, rfl, rfl, rfl⟩
      · conv => whnf
        refine ASeq.joinW tab_ok mixed_ (fun v11 => ⟨[(2, .ptr 0 0), (3, .ptr 1 0), (4, .ptr 2 0)], [(0, .box 70 [.int .i64 (0), .int .i64 (0), .int .i64 (v8), .int .i64 (v9), .int .i64 (v11.fst), .int .i64 (v11.snd.fst), .int .i64 (v11.snd.snd.fst), .int .i64 (v11.snd.snd.snd.fst), .int .i64 (v11.snd.snd.snd.snd.fst), .int .i64 (v11.snd.snd.snd.snd.snd.fst), .int .i64 (v11.snd.snd.snd.snd.snd.snd.fst), .int .i64 (v11.snd.snd.snd.snd.snd.snd.snd), .sl (a12) 100 (a13), .sl (a14) 21 (a15), .int .i64 (a16), .int .i64 (a17), .int .i64 (a18), .int .i64 (a19), .int .i64 (a20), .int .i64 (a21), .int .i64 (0), .int .i64 (0)]), (1, .box 113 [.bool (a24), .bool (a25), .bool (a26), .bool (a27), .bool (a28), .bool (a29), .bool (a30), .bool (a31)]), (2, .box 70 [.int .i64 (0), .int .i64 (0), .int .i64 (0), .int .i64 (0), .int .i64 (0), .int .i64 (0), .int .i64 (0), .int .i64 (0), .int .i64 (0), .int .i64 (0), .int .i64 (0), .int .i64 (0), .nils, .nils, .int .i64 (0), .int .i64 (0), .int .i64 (0), .int .i64 (0), .int .i64 (0), .int .i64 (0), .int .i64 (0), .int .i64 (0)])], 3, [], []⟩) h (fun Q h => ?_) (fun v11 h => ?_)
        · conv => whnf
          refine XSplit.mk (fun e => ?_) (fun e => ?_)
          · replace h := XSplit.t h e
            conv => whnf
            refine ⟨_, Weak.a ?_, h⟩; (conv => whnf); exact ⟨rfl, rfl, rfl, rfl, rfl⟩
          · replace h := XSplit.f h e
            conv => whnf
            refine ⟨_, Weak.a ?_, h⟩; (conv => whnf); exact ⟨rfl, rfl, rfl, rfl, rfl⟩
        · conv => whnf
          refine ASeq.joinW tab_ok mixed_ (fun v12 => ⟨[(2, .ptr 0 0), (3, .ptr 1 0), (4, .ptr 2 0)], [(0, .box 70 [.int .i64 (0), .int .i64 (0), .int .i64 (v8), .int .i64 (v9), .int .i64 (v11.fst), .int .i64 (v11.snd.fst), .int .i64 (v11.snd.snd.fst), .int .i64 (v11.snd.snd.snd.fst), .int .i64 (v11.snd.snd.snd.snd.fst), .int .i64 (v11.snd.snd.snd.snd.snd.fst), .int .i64 (v11.snd.snd.snd.snd.snd.snd.fst), .int .i64 (v11.snd.snd.snd.snd.snd.snd.snd), .sl (v12.fst) 100 (v12.snd.fst), .sl (v12.snd.snd.fst) 21 (v12.snd.snd.snd), .int .i64 (a16), .int .i64 (a17), .int .i64 (a18), .int .i64 (a19), .int .i64 (a20), .int .i64 (a21), .int .i64 (0), .int .i64 (0)]), (1, .box 113 [.bool (a24), .bool (a25), .bool (a26), .bool (a27), .bool (a28), .bool (a29), .bool (a30), .bool (a31)]), (2, .box 70 [.int .i64 (0), .int .i64 (0), .int .i64 (0), .int .i64 (0), .int .i64 (0), .int .i64 (0), .int .i64 (0), .int .i64 (0), .int .i64 (0), .int .i64 (0), .int .i64 (0), .int .i64 (0), .nils, .nils, .int .i64 (0), .int .i64 (0), .int .i64 (0), .int .i64 (0), .int .i64 (0), .int .i64 (0), .int .i64 (0), .int .i64 (0)])], 3, [], []⟩) h (fun Q h => ?_) (fun v12 h => ?_)
          · conv => whnf
            refine XSplit.mk (fun e => ?_) (fun e => ?_)
            · replace h := XSplit.t h e
              conv => whnf
              refine ⟨_, Weak.a ?_, h⟩; (conv => whnf); exact ⟨rfl, rfl, rfl, rfl, rfl⟩
            · replace h := XSplit.f h e
              conv => whnf
              refine ⟨_, Weak.a ?_, h⟩; (conv => whnf); exact ⟨rfl, rfl, rfl, rfl, rfl⟩
          · conv => whnf
            refine ASeq.joinW tab_ok mixed_ (fun v13 => ⟨[(2, .ptr 0 0), (3, .ptr 1 0), (4, .ptr 2 0)], [(0, .box 70 [.int .i64 (0), .int .i64 (0), .int .i64 (v8), .int .i64 (v9), .int .i64 (v11.fst), .int .i64 (v11.snd.fst), .int .i64 (v11.snd.snd.fst), .int .i64 (v11.snd.snd.snd.fst), .int .i64 (v11.snd.snd.snd.snd.fst), .int .i64 (v11.snd.snd.snd.snd.snd.fst), .int .i64 (v11.snd.snd.snd.snd.snd.snd.fst), .int .i64 (v11.snd.snd.snd.snd.snd.snd.snd), .sl (v12.fst) 100 (v12.snd.fst), .sl (v12.snd.snd.fst) 21 (v12.snd.snd.snd), .int .i64 (v13.fst), .int .i64 (v13.snd.fst), .int .i64 (a18), .int .i64 (a19), .int .i64 (v13.snd.snd), .int .i64 (a21), .int .i64 (0), .int .i64 (0)]), (1, .box 113 [.bool (a24), .bool (a25), .bool (a26), .bool (a27), .bool (a28), .bool (a29), .bool (a30), .bool (a31)]), (2, .box 70 [.int .i64 (0), .int .i64 (0), .int .i64 (0), .int .i64 (0), .int .i64 (0), .int .i64 (0), .int .i64 (0), .int .i64 (0), .int .i64 (0), .int .i64 (0), .int .i64 (0), .int .i64 (0), .nils, .nils, .int .i64 (0), .int .i64 (0), .int .i64 (0), .int .i64 (0), .int .i64 (0), .int .i64 (0), .int .i64 (0), .int .i64 (0)])], 3, [], []⟩) h (fun Q h => ?_) (fun v13 h => ?_)
            · conv => whnf
              refine XSplit.mk (fun e => ?_) (fun e => ?_)
              · replace h := XSplit.t h e
                conv => whnf
                refine ⟨_, Weak.a ?_, h⟩; (conv => whnf); exact ⟨rfl, rfl, rfl, rfl, rfl⟩
              · replace h := XSplit.f h e
                conv => whnf
                refine ⟨_, Weak.a ?_, h⟩; (conv => whnf); exact ⟨rfl, rfl, rfl, rfl, rfl⟩
            · conv => whnf
              refine ASeq.joinW tab_ok mixed_ (fun v14 => ⟨[(2, .ptr 0 0), (3, .ptr 1 0), (4, .ptr 2 0)], [(0, .box 70 [.int .i64 (0), .int .i64 (0), .int .i64 (v8), .int .i64 (v9), .int .i64 (v11.fst), .int .i64 (v11.snd.fst), .int .i64 (v11.snd.snd.fst), .int .i64 (v11.snd.snd.snd.fst), .int .i64 (v11.snd.snd.snd.snd.fst), .int .i64 (v11.snd.snd.snd.snd.snd.fst), .int .i64 (v11.snd.snd.snd.snd.snd.snd.fst), .int .i64 (v11.snd.snd.snd.snd.snd.snd.snd), .sl (v12.fst) 100 (v12.snd.fst), .sl (v12.snd.snd.fst) 21 (v12.snd.snd.snd), .int .i64 (v13.fst), .int .i64 (v13.snd.fst), .int .i64 (v14.fst), .int .i64 (v14.snd), .int .i64 (v13.snd.snd), .int .i64 (a21), .int .i64 (0), .int .i64 (0)]), (1, .box 113 [.bool (a24), .bool (a25), .bool (a26), .bool (a27), .bool (a28), .bool (a29), .bool (a30), .bool (a31)]), (2, .box 70 [.int .i64 (0), .int .i64 (0), .int .i64 (0), .int .i64 (0), .int .i64 (0), .int .i64 (0), .int .i64 (0), .int .i64 (0), .int .i64 (0), .int .i64 (0), .int .i64 (0), .int .i64 (0), .nils, .nils, .int .i64 (0), .int .i64 (0), .int .i64 (0), .int .i64 (0), .int .i64 (0), .int .i64 (0), .int .i64 (0), .int .i64 (0)])], 3, [], []⟩) h (fun Q h => ?_) (fun v14 h => ?_)
              · conv => whnf
                refine XSplit.mk (fun e => ?_) (fun e => ?_)
                · replace h := XSplit.t h e
                  conv => whnf
                  refine ⟨_, Weak.a ?_, h⟩; (conv => whnf); exact ⟨rfl, rfl, rfl, rfl, rfl⟩
                · replace h := XSplit.f h e
                  conv => whnf
                  refine ⟨_, Weak.a ?_, h⟩; (conv => whnf); exact ⟨rfl, rfl, rfl, rfl, rfl⟩
              · conv => whnf
                refine ASeq.joinW tab_ok mixed_ (fun v15 => ⟨[(2, .ptr 0 0), (4, .ptr 1 0)], [(0, .box 70 [.int .i64 (0), .int .i64 (0), .int .i64 (v8), .int .i64 (v9), .int .i64 (v11.fst), .int .i64 (v11.snd.fst), .int .i64 (v11.snd.snd.fst), .int .i64 (v11.snd.snd.snd.fst), .int .i64 (v11.snd.snd.snd.snd.fst), .int .i64 (v11.snd.snd.snd.snd.snd.fst), .int .i64 (v11.snd.snd.snd.snd.snd.snd.fst), .int .i64 (v11.snd.snd.snd.snd.snd.snd.snd), .sl (v12.fst) 100 (v12.snd.fst), .sl (v12.snd.snd.fst) 21 (v12.snd.snd.snd), .int .i64 (v13.fst), .int .i64 (v13.snd.fst), .int .i64 (v14.fst), .int .i64 (v14.snd), .int .i64 (v13.snd.snd), .int .i64 (v15), .int .i64 (0), .int .i64 (0)]), (1, .box 70 [.int .i64 (0), .int .i64 (0), .int .i64 (0), .int .i64 (0), .int .i64 (0), .int .i64 (0), .int .i64 (0), .int .i64 (0), .int .i64 (0), .int .i64 (0), .int .i64 (0), .int .i64 (0), .nils, .nils, .int .i64 (0), .int .i64 (0), .int .i64 (0), .int .i64 (0), .int .i64 (0), .int .i64 (0), .int .i64 (0), .int .i64 (0)])], 2, [], []⟩) h (fun Q h => ?_) (fun v15 h => ?_)
                · conv => whnf
                  refine XSplit.mk (fun e => ?_) (fun e => ?_)
                  · replace h := XSplit.t h e
                    conv => whnf
                    refine ⟨_, Weak.a ?_, h⟩; (conv => whnf); exact ⟨rfl, rfl, rfl, rfl, rfl⟩
                  · replace h := XSplit.f h e
                    conv => whnf
                    refine ⟨_, Weak.a ?_, h⟩; (conv => whnf); exact ⟨rfl, rfl, rfl, rfl, rfl⟩
                · conv => whnf
                  refine ⟨_, Weak.a ?_, ?_, h⟩; (conv => whnf); exact ⟨rfl, rfl, rfl, rfl, rfl⟩; exact rfl

theorem c_model_empty {a0 : Int} {a1 : Int} {a2 : Int} {a3 : Int} {a4 : Int} {a5 : Int} {a6 : Int} {a7 : Int} {a8 : Int} {a9 : Int} {a10 : Int} {a11 : Int} {a12 : Bool} {a13 : Rws} {a14 : Bool} {a15 : Rws} {a16 : Int} {a17 : Int} {a18 : Int} {a19 : Int} {a20 : Int} {a21 : Int} {a22 : Int} {a23 : Int} {Q : Bool → Prop} {R : AV → List AB → Prop} (h : (g_model_empty a0 a1 a2 a3 a4 a5 a6 a7 a8 a9 a10 a11 a12 a13 a14 a15 a16 a17 a18 a19 a20 a21 a22 a23).run Q) (k : ∀ r, Q r → R (.bool (r)) ([])) : ACalls Try.prog tab 56 [.agg [.int .i64 (a0), .int .i64 (a1), .int .i64 (a2), .int .i64 (a3), .int .i64 (a4), .int .i64 (a5), .int .i64 (a6), .int .i64 (a7), .int .i64 (a8), .int .i64 (a9), .int .i64 (a10), .int .i64 (a11), .sl (a12) 100 (a13), .sl (a14) 21 (a15), .int .i64 (a16), .int .i64 (a17), .int .i64 (a18), .int .i64 (a19), .int .i64 (a20), .int .i64 (a21), .int .i64 (a22), .int .i64 (a23)]] [] R := by
  refine ACalls.out (fun r => .bool (r)) (fun r => []) (Q := Q) (ACalls.introX (mv := mv) tab_ok mixed_ (fn := Try.f56) (by kernel_rfl) rfl (by kernel_rfl) (by kernel_rfl) (Nat.le_of_ble_eq_true rfl) ?_) (fun v => by first | exact ⟨rfl, Nat.le_of_ble_eq_true rfl⟩ | (cases v <;> exact ⟨rfl, Nat.le_of_ble_eq_true rfl⟩)) k
  conv => whnf
  refine ⟨_, Weak.a ?_, ?_, h⟩; (conv => whnf); exact ⟨rfl, rfl, rfl, rfl, rfl⟩; exact rfl

theorem c_window_within {a0 : Int} {a1 : Int} {a2 : Int} {Q : Bool → Prop} {R : AV → List AB → Prop} (h : (g_window_within a0 a1 a2).run Q) (k : ∀ r, Q r → R (.bool (r)) ([])) : ACalls Try.prog tab 75 [.int .i64 (a0), .int .i64 (a1), .int .i64 (a2)] [] R := by
  refine ACalls.out (fun r => .bool (r)) (fun r => []) (Q := Q) (ACalls.introX (mv := mv) tab_ok mixed_ (fn := Try.f75) (by kernel_rfl) rfl (by kernel_rfl) (by kernel_rfl) (Nat.le_of_ble_eq_true rfl) ?_) (fun v => by first | exact ⟨rfl, Nat.le_of_ble_eq_true rfl⟩ | (cases v <;> exact ⟨rfl, Nat.le_of_ble_eq_true rfl⟩)) k
  conv => whnf
  refine ⟨_, Weak.a ?_, ?_, h⟩; (conv => whnf); exact ⟨rfl, rfl, rfl, rfl, rfl⟩; exact rfl

theorem c_window_side {a0 : Int} {a1 : Int} {a2 : Int} {a3 : Int} {Q : Bool → Prop} {R : AV → List AB → Prop} (h : (g_window_side a0 a1 a2 a3).run Q) (k : ∀ r, Q r → R (.bool (r)) ([])) : ACalls Try.prog tab 73 [.int .i64 (a0), .int .i64 (a1), .int .i64 (a2), .int .i64 (a3)] [] R := by
  refine ACalls.out (fun r => .bool (r)) (fun r => []) (Q := Q) (ACalls.introX (mv := mv) tab_ok mixed_ (fn := Try.f73) (by kernel_rfl) rfl (by kernel_rfl) (by kernel_rfl) (Nat.le_of_ble_eq_true rfl) ?_) (fun v => by first | exact ⟨rfl, Nat.le_of_ble_eq_true rfl⟩ | (cases v <;> exact ⟨rfl, Nat.le_of_ble_eq_true rfl⟩)) k
  conv => whnf
  refine ASeq.joinW tab_ok mixed_ (fun v5 => ⟨[(8, .bool (v5))], [], 0, [], []⟩) h (fun Q h => ?_) (fun v5 h => ?_)
  · conv => whnf
    refine ACalls.inn (c_window_within (W.bindE h) (fun v6 h => ?_)) ⟨rfl, rfl⟩
    conv => whnf
    refine XSplit.mk (fun e => ?_) (fun e => ?_)
    · replace h := XSplit.t h e
      conv => whnf
      refine ACalls.inn (c_window_within (W.bindE h) (fun v7 h => ?_)) ⟨rfl, rfl⟩
      conv => whnf
      refine XSplit.mk (fun e => ?_) (fun e => ?_)
      · replace h := XSplit.t h e
        conv => whnf
        refine ACalls.inn (c_window_within (W.bindE h) (fun v8 h => ?_)) ⟨rfl, rfl⟩
        conv => whnf
        refine XSplit.mk (fun e => ?_) (fun e => ?_)
        · replace h := XSplit.t h e
          conv => whnf
          refine ACalls.inn (c_window_within (W.bindE h) (fun v9 h => ?_)) ⟨rfl, rfl⟩
          conv => whnf
          refine ⟨_, Weak.a ?_, h⟩; (conv => whnf); exact ⟨rfl, rfl, rfl, rfl, rfl⟩
        · replace h := XSplit.f h e
          conv => whnf
          refine ⟨_, Weak.a ?_, h⟩; (conv => whnf); exact ⟨rfl, rfl, rfl, rfl, rfl⟩
      · replace h := XSplit.f h e
        conv => whnf
        refine ⟨_, Weak.a ?_, h⟩; (conv => whnf); exact ⟨rfl, rfl, rfl, rfl, rfl⟩
    · replace h := XSplit.f h e
      conv => whnf
      refine ⟨_, Weak.a ?_, h⟩; (conv => whnf); exact ⟨rfl, rfl, rfl, rfl, rfl⟩
  · conv => whnf
    refine ⟨_, Weak.a ?_, ?_, h⟩; (conv => whnf); exact ⟨rfl, rfl, rfl, rfl, rfl⟩; exact rfl

theorem c_window_Valid {a0 : Int} {a1 : Int} {a2 : Int} {a3 : Int} {a4 : Int} {a5 : Int} {a6 : Int} {a7 : Int} {Q : Bool → Prop} {R : AV → List AB → Prop} (h : (g_window_Valid a0 a1 a2 a3 a4 a5 a6 a7).run Q) (k : ∀ r, Q r → R (.bool (r)) ([])) : ACalls Try.prog tab 70 [.agg [.int .i64 (a0), .int .i64 (a1), .int .i64 (a2), .int .i64 (a3), .int .i64 (a4), .int .i64 (a5), .int .i64 (a6), .int .i64 (a7)]] [] R := by
  refine ACalls.out (fun r => .bool (r)) (fun r => []) (Q := Q) (ACalls.introX (mv := mv) tab_ok mixed_ (fn := Try.f70) (by kernel_rfl) rfl (by kernel_rfl) (by kernel_rfl) (Nat.le_of_ble_eq_true rfl) ?_) (fun v => by first | exact ⟨rfl, Nat.le_of_ble_eq_true rfl⟩ | (cases v <;> exact ⟨rfl, Nat.le_of_ble_eq_true rfl⟩)) k
  conv => whnf
  refine ASeq.joinW tab_ok mixed_ (fun v3 => ⟨[(2, .bool (v3))], [], 0, [], []⟩) h (fun Q h => ?_) (fun v3 h => ?_)
  · conv => whnf
    refine ACalls.inn (c_window_side (W.bindE h) (fun v4 h => ?_)) ⟨rfl, rfl⟩
    conv => whnf
    refine XSplit.mk (fun e => ?_) (fun e => ?_)
    · replace h := XSplit.t h e
      conv => whnf
      refine ACalls.inn (c_window_side (W.bindE h) (fun v5 h => ?_)) ⟨rfl, rfl⟩
      conv => whnf
      refine ⟨_, Weak.a ?_, h⟩; (conv => whnf); exact ⟨rfl, rfl, rfl, rfl, rfl⟩
    · replace h := XSplit.f h e
      conv => whnf
      refine ⟨_, Weak.a ?_, h⟩; (conv => whnf); exact ⟨rfl, rfl, rfl, rfl, rfl⟩
  · conv => whnf
    refine ⟨_, Weak.a ?_, ?_, h⟩; (conv => whnf); exact ⟨rfl, rfl, rfl, rfl, rfl⟩; exact rfl

theorem c_window_Out {a0 : Int} {a1 : Int} {a2 : Int} {a3 : Int} {a4 : Int} {a5 : Int} {a6 : Int} {a7 : Int} {a8 : Int} {a9 : Int} {a10 : Int} {Q : Int × Int × Int → Prop} {R : AV → List AB → Prop} (h : (g_window_Out a0 a1 a2 a3 a4 a5 a6 a7 a8 a9 a10).run Q) (k : ∀ r, Q r → R (.tup [.int .i64 (r.fst), .int .i64 (r.snd.fst), .int .i64 (r.snd.snd)]) ([])) : ACalls Try.prog tab 66 [.agg [.int .i64 (a0), .int .i64 (a1), .int .i64 (a2)], .agg [.int .i64 (a3), .int .i64 (a4), .int .i64 (a5), .int .i64 (a6), .int .i64 (a7), .int .i64 (a8), .int .i64 (a9), .int .i64 (a10)]] [] R := by
  refine ACalls.out (fun r => .tup [.int .i64 (r.fst), .int .i64 (r.snd.fst), .int .i64 (r.snd.snd)]) (fun r => []) (Q := Q) (ACalls.introX (mv := mv) tab_ok mixed_ (fn := Try.f66) (by kernel_rfl) rfl (by kernel_rfl) (by kernel_rfl) (Nat.le_of_ble_eq_true rfl) ?_) (fun v => by first | exact ⟨rfl, Nat.le_of_ble_eq_true rfl⟩ | (cases v <;> exact ⟨rfl, Nat.le_of_ble_eq_true rfl⟩)) k
  conv => whnf
  refine ASeq.go tab_ok mixed_ ?_
  conv => whnf
  refine ACalls.inn (c_shape_Elems (W.bindE h) (fun v2 h => ?_)) ⟨rfl, rfl⟩
  conv => whnf
  refine XSplit.mk (fun e => ?_) (fun e => ?_)
  · replace h := XSplit.t h e
    conv => whnf
    refine ⟨_, Weak.a ?_, ?_, h⟩; (conv => whnf); exact ⟨rfl, rfl, rfl, rfl, rfl⟩; exact rfl
  · replace h := XSplit.f h e
    conv => whnf
    refine ASeq.go tab_ok mixed_ ?_
    conv => whnf
    refine ACalls.inn (c_window_Valid (W.bindE h) (fun v3 h => ?_)) ⟨rfl, rfl⟩
    conv => whnf
    refine XSplit.mk (fun e => ?_) (fun e => ?_)
    · replace h := XSplit.t h e
      conv => whnf
      refine ⟨_, Weak.a ?_, ?_, h⟩; (conv => whnf); exact ⟨rfl, rfl, rfl, rfl, rfl⟩; exact rfl
    · replace h := XSplit.f h e
      conv => whnf
      refine XDraw.q [0, 1, 2, 3, 4, 5, 6, 7, 8, 9, 10, 11, 12, 13, 14, 15, 16, 17, 18, 19, 20, 21, 22, 23] (by decide +kernel) ?_
      conv => whnf
      refine ASeq.go tab_ok mixed_ ?_
      conv => whnf
      refine XSplit.mk (fun e => ?_) (fun e => ?_)
      · replace h := XSplit.t h e
        conv => whnf
        refine ⟨_, Weak.a ?_, ?_, h⟩; (conv => whnf); exact ⟨rfl, rfl, rfl, rfl, rfl⟩; exact rfl
      · replace h := XSplit.f h e
        conv => whnf
        refine XDraw.q [0, 1, 2, 3, 4, 5, 6, 7, 8, 9, 10, 11, 12] (by decide +kernel) ?_
        conv => whnf
        refine XNeed.mk (XNeed.c h) ?_; replace h := XNeed.x h
        conv => whnf
        refine XNeed.mk (XNeed.c h) ?_; replace h := XNeed.x h
        conv => whnf
        refine ⟨_, Weak.a ?_, ?_, h⟩; (conv => whnf); exact ⟨rfl, rfl, rfl, rfl, rfl⟩; exact rfl

theorem c_model_makes {a0 : Int} {a1 : Int} {a2 : Int} {a3 : Int} {a4 : Int} {a5 : Int} {a6 : Int} {a7 : Int} {a8 : Int} {a9 : Int} {a10 : Int} {a11 : Int} {a12 : Bool} {a13 : Rws} {a14 : Bool} {a15 : Rws} {a16 : Int} {a17 : Int} {a18 : Int} {a19 : Int} {a20 : Int} {a21 : Int} {a22 : Int} {a23 : Int} {a24 : Int} {a25 : Int} {a26 : Int} {Q : Int × Int × Int × Int × Int × Int → Prop} {R : AV → List AB → Prop} (h : (g_model_makes a0 a1 a2 a3 a4 a5 a6 a7 a8 a9 a10 a11 a12 a13 a14 a15 a16 a17 a18 a19 a20 a21 a22 a23 a24 a25 a26).run Q) (k : ∀ r, Q r → R (.tup [.agg [.int .i64 (r.fst), .int .i64 (r.snd.fst), .int .i64 (r.snd.snd.fst)], .int .i64 (r.snd.snd.snd.fst), .int .i64 (r.snd.snd.snd.snd.fst), .int .i64 (r.snd.snd.snd.snd.snd)]) ([])) : ACalls Try.prog tab 58 [.agg [.int .i64 (a0), .int .i64 (a1), .int .i64 (a2), .int .i64 (a3), .int .i64 (a4), .int .i64 (a5), .int .i64 (a6), .int .i64 (a7), .int .i64 (a8), .int .i64 (a9), .int .i64 (a10), .int .i64 (a11), .sl (a12) 100 (a13), .sl (a14) 21 (a15), .int .i64 (a16), .int .i64 (a17), .int .i64 (a18), .int .i64 (a19), .int .i64 (a20), .int .i64 (a21), .int .i64 (a22), .int .i64 (a23)], .agg [.int .i64 (a24), .int .i64 (a25), .int .i64 (a26)]] [] R := by
  refine ACalls.out (fun r => .tup [.agg [.int .i64 (r.fst), .int .i64 (r.snd.fst), .int .i64 (r.snd.snd.fst)], .int .i64 (r.snd.snd.snd.fst), .int .i64 (r.snd.snd.snd.snd.fst), .int .i64 (r.snd.snd.snd.snd.snd)]) (fun r => []) (Q := Q) (ACalls.introX (mv := mv) tab_ok mixed_ (fn := Try.f58) (by kernel_rfl) rfl (by kernel_rfl) (by kernel_rfl) (Nat.le_of_ble_eq_true rfl) ?_) (fun v => by first | exact ⟨rfl, Nat.le_of_ble_eq_true rfl⟩ | (cases v <;> exact ⟨rfl, Nat.le_of_ble_eq_true rfl⟩)) k
  conv => whnf
  refine ACalls.inn (c_model_of (W.bindE h) (fun v5 h => ?_)) ⟨rfl, rfl⟩
  conv => whnf
  refine ASeq.joinE tab_ok mixed_ (fun v6 => ⟨[(2, .ptr 0 0), (3, .ptr 1 0), (4, .ptr 2 0), (5, .int .i64 (0)), (6, .int .i64 (0)), (7, .int .i64 (0)), (10, .ptr 3 0), (11, .int .i64 (v6.fst))], [(0, .box 70 [.int .i64 (a0), .int .i64 (a1), .int .i64 (a2), .int .i64 (a3), .int .i64 (a4), .int .i64 (a5), .int .i64 (a6), .int .i64 (a7), .int .i64 (a8), .int .i64 (a9), .int .i64 (a10), .int .i64 (a11), .sl (a12) 100 (a13), .sl (a14) 21 (a15), .int .i64 (a16), .int .i64 (a17), .int .i64 (a18), .int .i64 (a19), .int .i64 (a20), .int .i64 (a21), .int .i64 (a22), .int .i64 (a23)]), (1, .box 23 [.int .i64 (a24), .int .i64 (a25), .int .i64 (a26)]), (2, .box 23 [.int .i64 (0), .int .i64 (0), .int .i64 (0)]), (3, .box 23 [.int .i64 (v6.snd.fst), .int .i64 (v6.snd.snd), .int .i64 (a26)])], 4, [], []⟩) h (fun Q h => ?_) (fun v6 h => ?_)
  · conv => whnf
    refine XSplit.mk (fun e => ?_) (fun e => ?_)
    · replace h := XSplit.t h e
      conv => whnf
      refine ACalls.inn (c_window_Out (W.bindE h) (fun v7 h => ?_)) ⟨rfl, rfl⟩
      conv => whnf
      refine ASeq.go tab_ok mixed_ ?_
      conv => whnf
      refine XSplit.mk (fun e => ?_) (fun e => ?_)
      · replace h := XSplit.t h e
        conv => whnf
        refine ⟨_, Weak.a ?_, ?_, h⟩; (conv => whnf); exact ⟨rfl, rfl, rfl, rfl, rfl⟩; exact rfl
      · replace h := XSplit.f h e
        conv => whnf
        refine XDraw.d [0, 1, 2, 3, 4, 5, 6, 7, 8, 9, 10, 11, 12, 13] [[], [], [], [], [], [], [], [], [], [], [4], [], [4], []] (by decide +kernel) ?_
        conv => whnf
        refine ⟨_, Weak.a ?_, h⟩; (conv => whnf); exact ⟨rfl, rfl, rfl, rfl, rfl⟩
    · replace h := XSplit.f h e
      conv => whnf
      refine ⟨_, Weak.a ?_, h⟩; (conv => whnf); exact ⟨rfl, rfl, rfl, rfl, rfl⟩
  · conv => whnf
    refine ASeq.joinW tab_ok mixed_ (fun v8 => ⟨[(4, .ptr 0 0), (5, .int .i64 (0)), (6, .int .i64 (0)), (7, .int .i64 (0)), (10, .ptr 1 0), (11, .int .i64 (v8.fst)), (15, .int .i64 (v8.snd.fst))], [(0, .box 23 [.int .i64 (0), .int .i64 (0), .int .i64 (0)]), (1, .box 23 [.int .i64 (v8.snd.snd.fst), .int .i64 (v8.snd.snd.snd.fst), .int .i64 (v8.snd.snd.snd.snd)])], 2, [], []⟩) h (fun Q h => ?_) (fun v8 h => ?_)
    · conv => whnf
      refine XSplit.mk (fun e => ?_) (fun e => ?_)
      · replace h := XSplit.t h e
        conv => whnf
        refine XDraw.d [0, 1, 2, 3, 4, 5, 6, 7, 8, 9, 10, 11, 12] [[], [], [], [], [], [], [], [], [], [], [], [], [3]] (by decide +kernel) ?_
        conv => whnf
        refine ⟨_, Weak.a ?_, h⟩; (conv => whnf); exact ⟨rfl, rfl, rfl, rfl, rfl⟩
      · replace h := XSplit.f h e
        conv => whnf
        refine XSplit.mk (fun e => ?_) (fun e => ?_)
        · replace h := XSplit.t h e
          conv => whnf
          refine XDraw.d [0, 1, 2, 3, 4, 5] [[], [], [], [], [], [3]] (by decide +kernel) ?_
          conv => whnf
          refine ⟨_, Weak.a ?_, h⟩; (conv => whnf); exact ⟨rfl, rfl, rfl, rfl, rfl⟩
        · replace h := XSplit.f h e
          conv => whnf
          refine ASeq.joinW tab_ok mixed_ (fun v9 => ⟨[(4, .ptr 0 0), (5, .int .i64 (0)), (6, .int .i64 (0)), (7, .int .i64 (0)), (10, .ptr 1 0), (11, .int .i64 (v6.fst)), (15, .int .i64 (0)), (74, .bool (v9))], [(0, .box 23 [.int .i64 (0), .int .i64 (0), .int .i64 (0)]), (1, .box 23 [.int .i64 (v6.snd.fst), .int .i64 (v6.snd.snd), .int .i64 (a26)])], 2, [], []⟩) h (fun Q h => ?_) (fun v9 h => ?_)
          · conv => whnf
            refine XSplit.mk (fun e => ?_) (fun e => ?_)
            · replace h := XSplit.t h e
              conv => whnf
              refine ⟨_, Weak.a ?_, h⟩; (conv => whnf); exact ⟨rfl, rfl, rfl, rfl, rfl⟩
            · replace h := XSplit.f h e
              conv => whnf
              refine ⟨_, Weak.a ?_, h⟩; (conv => whnf); exact ⟨rfl, rfl, rfl, rfl, rfl⟩
          · conv => whnf
            refine XSplit.mk (fun e => ?_) (fun e => ?_)
            · replace h := XSplit.t h e
              conv => whnf
              refine ⟨_, Weak.a ?_, h⟩; (conv => whnf); exact ⟨rfl, rfl, rfl, rfl, rfl⟩
            · replace h := XSplit.f h e
              conv => whnf
              refine ⟨_, Weak.a ?_, h⟩; (conv => whnf); exact ⟨rfl, rfl, rfl, rfl, rfl⟩
    · conv => whnf
      refine XDraw.d [0, 1, 2, 3, 4, 5, 6, 7, 8, 9, 10, 11, 12, 13, 14, 15] [[], [], [], [], [], [], [], [], [], [], [], [], [0], [], [], []] (by decide +kernel) ?_
      conv => whnf
      refine ⟨_, Weak.a ?_, ?_, h⟩; (conv => whnf); exact ⟨rfl, rfl, rfl, rfl, rfl⟩; exact rfl

theorem c_fixq_Valid {a0 : Int} {a1 : Int} {Q : Bool → Prop} {R : AV → List AB → Prop} (h : (g_fixq_Valid a0 a1).run Q) (k : ∀ r, Q r → R (.bool (r)) ([])) : ACalls Try.prog tab 59 [.agg [.int .i64 (a0), .int .i64 (a1)]] [] R := by
  refine ACalls.out (fun r => .bool (r)) (fun r => []) (Q := Q) (ACalls.introX (mv := mv) tab_ok mixed_ (fn := Try.f59) (by kernel_rfl) rfl (by kernel_rfl) (by kernel_rfl) (Nat.le_of_ble_eq_true rfl) ?_) (fun v => by first | exact ⟨rfl, Nat.le_of_ble_eq_true rfl⟩ | (cases v <;> exact ⟨rfl, Nat.le_of_ble_eq_true rfl⟩)) k
  conv => whnf
  refine ⟨_, Weak.a ?_, ?_, h⟩; (conv => whnf); exact ⟨rfl, rfl, rfl, rfl, rfl⟩; exact rfl

theorem c_model_op {a0 : Int} {a1 : Int} {a2 : Int} {a3 : Int} {a4 : Int} {a5 : Int} {a6 : Int} {a7 : Int} {a8 : Int} {a9 : Int} {a10 : Int} {a11 : Int} {a12 : Bool} {a13 : Rws} {a14 : Bool} {a15 : Rws} {a16 : Int} {a17 : Int} {a18 : Int} {a19 : Int} {a20 : Int} {a21 : Int} {a22 : Int} {a23 : Int} {a24 : Bool} {a25 : Rws} {Q : Int × Int × Int × Int × Int → Prop} {R : AV → List AB → Prop} (h : (g_model_op a0 a1 a2 a3 a4 a5 a6 a7 a8 a9 a10 a11 a12 a13 a14 a15 a16 a17 a18 a19 a20 a21 a22 a23 a24 a25).run Q) (k : ∀ r, Q r → R (.tup [.agg [.int .i64 (r.fst), .int .i64 (r.snd.fst), .int .i64 (r.snd.snd.fst)], .int .i64 (r.snd.snd.snd.fst), .int .i64 (r.snd.snd.snd.snd)]) ([])) : ACalls Try.prog tab 50 [.agg [.int .i64 (a0), .int .i64 (a1), .int .i64 (a2), .int .i64 (a3), .int .i64 (a4), .int .i64 (a5), .int .i64 (a6), .int .i64 (a7), .int .i64 (a8), .int .i64 (a9), .int .i64 (a10), .int .i64 (a11), .sl (a12) 100 (a13), .sl (a14) 21 (a15), .int .i64 (a16), .int .i64 (a17), .int .i64 (a18), .int .i64 (a19), .int .i64 (a20), .int .i64 (a21), .int .i64 (a22), .int .i64 (a23)], .sl (a24) 23 (a25)] [] R := by
  refine ACalls.out (fun r => .tup [.agg [.int .i64 (r.fst), .int .i64 (r.snd.fst), .int .i64 (r.snd.snd.fst)], .int .i64 (r.snd.snd.snd.fst), .int .i64 (r.snd.snd.snd.snd)]) (fun r => []) (Q := Q) (ACalls.introX (mv := mv) tab_ok mixed_ (fn := Try.f50) (by kernel_rfl) rfl (by kernel_rfl) (by kernel_rfl) (Nat.le_of_ble_eq_true rfl) ?_) (fun v => by first | exact ⟨rfl, Nat.le_of_ble_eq_true rfl⟩ | (cases v <;> exact ⟨rfl, Nat.le_of_ble_eq_true rfl⟩)) k
  conv => whnf
  refine ACalls.inn (c_model_of (W.bindE h) (fun v11 h => ?_)) ⟨rfl, rfl⟩
  conv => whnf
  refine ASeq.go tab_ok mixed_ ?_
  conv => whnf
  refine XSplit.mk (fun e => ?_) (fun e => ?_)
  · replace h := XSplit.t h e
    conv => whnf
    refine ⟨_, Weak.a ?_, ?_, h⟩; (conv => whnf); exact ⟨rfl, rfl, rfl, rfl, rfl⟩; exact rfl
  · replace h := XSplit.f h e
    conv => whnf
    refine XSplit.mk (fun e => ?_) (fun e => ?_)
    · replace h := XSplit.t h e
      conv => whnf
      refine ⟨_, Weak.a ?_, ?_, h⟩; (conv => whnf); exact ⟨rfl, rfl, rfl, rfl, rfl⟩; exact rfl
    · replace h := XSplit.f h e
      conv => whnf
      refine ACalls.inn (c_model_bare (W.bindE h) (fun v12 h => ?_)) ⟨rfl, rfl⟩
      conv => whnf
      refine ACalls.inn (c_model_empty (W.bindE h) (fun v13 h => ?_)) ⟨rfl, rfl⟩
      conv => whnf
      refine XSplit.mk (fun e => ?_) (fun e => ?_)
      · replace h := XSplit.t h e
        conv => whnf
        refine ⟨_, Weak.a ?_, ?_, h⟩; (conv => whnf); exact ⟨rfl, rfl, rfl, rfl, rfl⟩; exact rfl
      · replace h := XSplit.f h e
        conv => whnf
        refine XSplit.mk (fun e => ?_) (fun e => ?_)
        · replace h := XSplit.t h e
          conv => whnf
          refine ⟨_, Weak.a ?_, ?_, h⟩; (conv => whnf); exact ⟨rfl, rfl, rfl, rfl, rfl⟩; exact rfl
        · replace h := XSplit.f h e
          conv => whnf
          refine XNeed.mk (XNeed.c h) ?_; replace h := XNeed.x h
          conv => whnf
          refine ACalls.inn (c_model_makes (W.bindE h) (fun v14 h => ?_)) ⟨rfl, rfl⟩
          conv => whnf
          refine ASeq.go tab_ok mixed_ ?_
          conv => whnf
          refine XSplit.mk (fun e => ?_) (fun e => ?_)
          · replace h := XSplit.t h e
            conv => whnf
            refine ⟨_, Weak.a ?_, ?_, h⟩; (conv => whnf); exact ⟨rfl, rfl, rfl, rfl, rfl⟩; exact rfl
          · replace h := XSplit.f h e
            conv => whnf
            refine ASeq.go tab_ok mixed_ ?_
            conv => whnf
            refine ACalls.inn (c_shape_Elems (W.bindE h) (fun v15 h => ?_)) ⟨rfl, rfl⟩
            conv => whnf
            refine XDraw.q [0, 1, 2, 3, 4, 5, 6, 7, 8, 9, 10, 11, 12, 13, 14] (by decide +kernel) ?_
            conv => whnf
            refine XNeed.mk (XNeed.c h) ?_; replace h := XNeed.x h
            conv => whnf
            refine XSplit.mk (fun e => ?_) (fun e => ?_)
            · replace h := XSplit.t h e
              conv => whnf
              refine ⟨_, Weak.a ?_, ?_, h⟩; (conv => whnf); exact ⟨rfl, rfl, rfl, rfl, rfl⟩; exact rfl
            · replace h := XSplit.f h e
              conv => whnf
              refine ASeq.joinW tab_ok mixed_ (fun v16 => ⟨[(2, .ptr 0 0), (4, .ptr 1 0), (5, .int .i64 (0)), (6, .int .i64 (0)), (7, .ptr 2 0), (8, .ptr 3 0), (11, .ptr 4 0), (12, .int .i64 (v14.snd.snd.snd.fst)), (13, .int .i64 (v14.snd.snd.snd.snd.fst)), (17, .int .i64 (v16))], [(0, .box 70 [.int .i64 (a0), .int .i64 (a1), .int .i64 (a2), .int .i64 (a3), .int .i64 (a4), .int .i64 (a5), .int .i64 (a6), .int .i64 (a7), .int .i64 (a8), .int .i64 (a9), .int .i64 (a10), .int .i64 (a11), .sl (a12) 100 (a13), .sl (a14) 21 (a15), .int .i64 (a16), .int .i64 (a17), .int .i64 (a18), .int .i64 (a19), .int .i64 (a20), .int .i64 (a21), .int .i64 (a22), .int .i64 (a23)]), (1, .box 23 [.int .i64 (0), .int .i64 (0), .int .i64 (0)]), (2, .box 23 [.int .i64 (0), .int .i64 (0), .int .i64 (0)]), (3, .box 113 [.bool (v11.fst), .bool (v11.snd.fst), .bool (v11.snd.snd.fst), .bool (v11.snd.snd.snd.fst), .bool (v11.snd.snd.snd.snd.fst), .bool (v11.snd.snd.snd.snd.snd.fst), .bool (v11.snd.snd.snd.snd.snd.snd.fst), .bool (v11.snd.snd.snd.snd.snd.snd.snd.fst)]), (4, .box 23 [.int .i64 (v14.fst), .int .i64 (v14.snd.fst), .int .i64 (v14.snd.snd.fst)])], 5, [], []⟩) h (fun Q h => ?_) (fun v16 h => ?_)
              · conv => whnf
                refine XSplit.mk (fun e => ?_) (fun e => ?_)
                · replace h := XSplit.t h e
                  conv => whnf
                  refine ⟨_, Weak.a ?_, h⟩; (conv => whnf); exact ⟨rfl, rfl, rfl, rfl, rfl⟩
                · replace h := XSplit.f h e
                  conv => whnf
                  refine ⟨_, Weak.a ?_, h⟩; (conv => whnf); exact ⟨rfl, rfl, rfl, rfl, rfl⟩
              · conv => whnf
                refine ASeq.go tab_ok mixed_ ?_
                conv => whnf
                refine XSplit.mk (fun e => ?_) (fun e => ?_)
                · replace h := XSplit.t h e
                  conv => whnf
                  refine ⟨_, Weak.a ?_, ?_, h⟩; (conv => whnf); exact ⟨rfl, rfl, rfl, rfl, rfl⟩; exact rfl
                · replace h := XSplit.f h e
                  conv => whnf
                  refine XSplit.mk (fun e => ?_) (fun e => ?_)
                  · replace h := XSplit.t h e
                    conv => whnf
                    refine ⟨_, Weak.a ?_, ?_, h⟩; (conv => whnf); exact ⟨rfl, rfl, rfl, rfl, rfl⟩; exact rfl
                  · replace h := XSplit.f h e
                    conv => whnf
                    refine ASeq.joinW tab_ok mixed_ (fun v17 => ⟨[(2, .ptr 0 0), (4, .ptr 1 0), (5, .int .i64 (0)), (6, .int .i64 (0)), (7, .ptr 2 0), (11, .ptr 3 0), (13, .int .i64 (v14.snd.snd.snd.snd.fst)), (140, .bool (v17))], [(0, .box 70 [.int .i64 (a0), .int .i64 (a1), .int .i64 (a2), .int .i64 (a3), .int .i64 (a4), .int .i64 (a5), .int .i64 (a6), .int .i64 (a7), .int .i64 (a8), .int .i64 (a9), .int .i64 (a10), .int .i64 (a11), .sl (a12) 100 (a13), .sl (a14) 21 (a15), .int .i64 (a16), .int .i64 (a17), .int .i64 (a18), .int .i64 (a19), .int .i64 (a20), .int .i64 (a21), .int .i64 (a22), .int .i64 (a23)]), (1, .box 23 [.int .i64 (0), .int .i64 (0), .int .i64 (0)]), (2, .box 23 [.int .i64 (0), .int .i64 (0), .int .i64 (0)]), (3, .box 23 [.int .i64 (v14.fst), .int .i64 (v14.snd.fst), .int .i64 (v14.snd.snd.fst)])], 4, [], []⟩) h (fun Q h => ?_) (fun v17 h => ?_)
                    · conv => whnf
                      refine XSplit.mk (fun e => ?_) (fun e => ?_)
                      · replace h := XSplit.t h e
                        conv => whnf
                        refine ACalls.inn (c_fixq_Valid (W.bindE h) (fun v18 h => ?_)) ⟨rfl, rfl⟩
                        conv => whnf
                        refine XSplit.mk (fun e => ?_) (fun e => ?_)
                        · replace h := XSplit.t h e
                          conv => whnf
                          refine ⟨_, Weak.a ?_, h⟩; (conv => whnf); exact ⟨rfl, rfl, rfl, rfl, rfl⟩
                        · replace h := XSplit.f h e
                          conv => whnf
                          refine XSplit.mk (fun e => ?_) (fun e => ?_)
                          · replace h := XSplit.t h e
                            conv => whnf
                            refine ACalls.inn (c_fixq_Valid (W.bindE h) (fun v19 h => ?_)) ⟨rfl, rfl⟩
                            conv => whnf
                            refine ⟨_, Weak.a ?_, h⟩; (conv => whnf); exact ⟨rfl, rfl, rfl, rfl, rfl⟩
                          · replace h := XSplit.f h e
                            conv => whnf
                            refine ⟨_, Weak.a ?_, h⟩; (conv => whnf); exact ⟨rfl, rfl, rfl, rfl, rfl⟩
                      · replace h := XSplit.f h e
                        conv => whnf
                        refine XSplit.mk (fun e => ?_) (fun e => ?_)
                        · replace h := XSplit.t h e
                          conv => whnf
                          refine ACalls.inn (c_fixq_Valid (W.bindE h) (fun v20 h => ?_)) ⟨rfl, rfl⟩
                          conv => whnf
                          refine ⟨_, Weak.a ?_, h⟩; (conv => whnf); exact ⟨rfl, rfl, rfl, rfl, rfl⟩
                        · replace h := XSplit.f h e
                          conv => whnf
                          refine ⟨_, Weak.a ?_, h⟩; (conv => whnf); exact ⟨rfl, rfl, rfl, rfl, rfl⟩
                    · conv => whnf
                      refine XSplit.mk (fun e => ?_) (fun e => ?_)
                      · replace h := XSplit.t h e
                        conv => whnf
                        refine ⟨_, Weak.a ?_, ?_, h⟩; (conv => whnf); exact ⟨rfl, rfl, rfl, rfl, rfl⟩; exact rfl
                      · replace h := XSplit.f h e
                        conv => whnf
                        refine ACalls.inn (c_model_byte8 (W.bindE h) (fun v21 h => ?_)) ⟨rfl, rfl⟩
                        conv => whnf
                        refine XSplit.mk (fun e => ?_) (fun e => ?_)
                        · replace h := XSplit.t h e
                          conv => whnf
                          refine ⟨_, Weak.a ?_, ?_, h⟩; (conv => whnf); exact ⟨rfl, rfl, rfl, rfl, rfl⟩; exact rfl
                        · replace h := XSplit.f h e
                          conv => whnf
                          refine ⟨_, Weak.a ?_, ?_, h⟩; (conv => whnf); exact ⟨rfl, rfl, rfl, rfl, rfl⟩; exact rfl
end Go.Proofs.Yticonbckgffjbaa.V15

set_option linter.unusedVariables false
set_option maxRecDepth 100000
set_option maxHeartbeats 0
namespace Go.Proofs.Yticonbckgffjbaa.V15
open Go.Proofs Go.Proofs.Yticonbckgffjbaa.VX
theorem c_model_whole {a0 : Int} {a1 : Int} {a2 : Int} {a3 : Int} {a4 : Int} {a5 : Bool} {a6 : Rws} {a7 : Int} {Q : Int × Int × Int × Int × Bool × Rws → Prop} {R : AV → List AB → Prop} (h : (g_model_whole a0 a1 a2 a3 a4 a5 a6 a7).run Q) (k : ∀ r, Q r → R (.tup [.own 0, .int .i64 (r.fst), .agg [.int .i64 (r.snd.fst), .int .i64 (r.snd.snd.fst), .int .i64 (r.snd.snd.snd.fst)]]) ([.arr true 23 (r.snd.snd.snd.snd.fst) (r.snd.snd.snd.snd.snd)])) : ACalls Try.prog tab 42 [.agg [.int .i64 (a0), .int .i64 (a1), .int .i64 (a2), .int .i64 (a3), .int .i64 (a4), .sl (a5) 70 (a6), .int .i64 (a7)]] [] R := by
  refine ACalls.out (fun r => .tup [.own 0, .int .i64 (r.fst), .agg [.int .i64 (r.snd.fst), .int .i64 (r.snd.snd.fst), .int .i64 (r.snd.snd.snd.fst)]]) (fun r => [.arr true 23 (r.snd.snd.snd.snd.fst) (r.snd.snd.snd.snd.snd)]) (Q := Q) (ACalls.introX (mv := mv) tab_ok mixed_ (fn := Try.f42) (by kernel_rfl) rfl (by kernel_rfl) (by kernel_rfl) (Nat.le_of_ble_eq_true rfl) ?_) (fun v => by first | exact ⟨rfl, Nat.le_of_ble_eq_true rfl⟩ | (cases v <;> exact ⟨rfl, Nat.le_of_ble_eq_true rfl⟩)) k
  conv => whnf
  refine ACalls.inn (c_shape_Elems (W.bindE h) (fun v7 h => ?_)) ⟨rfl, rfl⟩
  conv => whnf
  refine ASeq.go tab_ok mixed_ ?_
  conv => whnf
  refine XSplit.mk (fun e => ?_) (fun e => ?_)
  · replace h := XSplit.t h e
    conv => whnf
    refine ⟨_, Weak.a ?_, ?_, h⟩; (conv => whnf); exact ⟨rfl, rfl, rfl, rfl, rfl⟩; exact rfl
  · replace h := XSplit.f h e
    conv => whnf
    refine ACalls.inn (c_model_byte8 (W.bindE h) (fun v8 h => ?_)) ⟨rfl, rfl⟩
    conv => whnf
    refine XSplit.mk (fun e => ?_) (fun e => ?_)
    · replace h := XSplit.t h e
      conv => whnf
      refine ⟨_, Weak.a ?_, ?_, h⟩; (conv => whnf); exact ⟨rfl, rfl, rfl, rfl, rfl⟩; exact rfl
    · replace h := XSplit.f h e
      conv => whnf
      refine XSplit.mk (fun e => ?_) (fun e => ?_)
      · replace h := XSplit.t h e
        conv => whnf
        refine ⟨_, Weak.a ?_, ?_, h⟩; (conv => whnf); exact ⟨rfl, rfl, rfl, rfl, rfl⟩; exact rfl
      · replace h := XSplit.f h e
        conv => whnf
        refine XSplit.mk (fun e => ?_) (fun e => ?_)
        · replace h := XSplit.t h e
          conv => whnf
          refine ⟨_, Weak.a ?_, ?_, h⟩; (conv => whnf); exact ⟨rfl, rfl, rfl, rfl, rfl⟩; exact rfl
        · replace h := XSplit.f h e
          conv => whnf
          refine ASeq.go tab_ok mixed_ ?_
          conv => whnf
          refine ALoop.ofW tab_ok mixed_ (fun v9 => ⟨[(2, .nils), (3, .int .i64 (0)), (4, .ptr 0 0), (7, .own 1), (8, .int .i64 (v9.fst)), (64, .sl (a5) 70 (a6)), (65, .int .i64 ((↑(List.length a6) : Int))), (66, .int .i64 (v9.snd.fst))], [(0, .box 39 [.int .i64 (0), .int .i64 (0), .int .i64 (0)]), (1, .arr true 23 (false) (v9.snd.snd))], 2, [], []⟩) (sx (fun v10 => (.ret, ⟨[(2, .nils), (3, .int .i64 (0)), (4, .ptr 0 0)], [(0, .box 39 [.int .i64 (v10.fst), .int .i64 (v10.snd), .int .i64 (0)])], 1, [], []⟩)) (fun v11 => (.exit 1, ⟨[(2, .nils), (3, .int .i64 (0)), (4, .ptr 0 0), (7, .own 1), (8, .int .i64 (v11.fst))], [(0, .box 39 [.int .i64 (0), .int .i64 (0), .int .i64 (0)]), (1, .arr true 23 (false) (v11.snd))], 2, [], []⟩))) (W.bindE h) (Weak.a ?_) (fun v9 J_ Q h => ?_) (fun v h => ?_)
          · conv => whnf
            exact ⟨rfl, rfl, rfl, rfl, rfl⟩
          · conv => whnf
            refine ASeq.go tab_ok mixed_ ?_
            conv => whnf
            refine XSplit.mk (fun e => ?_) (fun e => ?_)
            · replace h := XSplit.t h e
              conv => whnf
              refine ASeq.go tab_ok mixed_ ?_
              conv => whnf
              refine XNeed.mk (XNeed.c h) ?_; replace h := XNeed.x h
              conv => whnf
              refine ACalls.inn (c_model_op (W.bindE h) (fun v12 h => ?_)) ⟨rfl, rfl⟩
              conv => whnf
              refine ASeq.joinW tab_ok mixed_ (fun v13 => ⟨[(2, .nils), (3, .int .i64 (0)), (4, .ptr 0 0), (7, .own 1), (8, .int .i64 (IntKind.i64.wrap (v9.fst + v12.snd.snd.snd.fst))), (9, .int .i64 (v9.snd.fst)), (10, .ptr 2 0), (11, .ptr 3 0), (12, .int .i64 (v12.snd.snd.snd.fst)), (13, .int .i64 (v13)), (64, .sl (a5) 70 (a6)), (65, .int .i64 ((↑(List.length a6) : Int))), (66, .int .i64 (v9.snd.fst)), (67, .bool (decide (v9.snd.fst < (↑(List.length a6) : Int)))), (68, .int .i64 (v9.snd.fst)), (69, .rel 70 (a6) (v9.snd.fst.toNat) 0), (70, .agg [.int .i64 (ri a6 v9.snd.fst.toNat 0), .int .i64 (ri a6 v9.snd.fst.toNat 1), .int .i64 (ri a6 v9.snd.fst.toNat 2), .int .i64 (ri a6 v9.snd.fst.toNat 3), .int .i64 (ri a6 v9.snd.fst.toNat 4), .int .i64 (ri a6 v9.snd.fst.toNat 5), .int .i64 (ri a6 v9.snd.fst.toNat 6), .int .i64 (ri a6 v9.snd.fst.toNat 7), .int .i64 (ri a6 v9.snd.fst.toNat 8), .int .i64 (ri a6 v9.snd.fst.toNat 9), .int .i64 (ri a6 v9.snd.fst.toNat 10), .int .i64 (ri a6 v9.snd.fst.toNat 11), .sl (rn a6 v9.snd.fst.toNat 12) 100 (rr a6 v9.snd.fst.toNat 12), .sl (rn a6 v9.snd.fst.toNat 13) 21 (rr a6 v9.snd.fst.toNat 13), .int .i64 (ri a6 v9.snd.fst.toNat 14), .int .i64 (ri a6 v9.snd.fst.toNat 15), .int .i64 (ri a6 v9.snd.fst.toNat 16), .int .i64 (ri a6 v9.snd.fst.toNat 17), .int .i64 (ri a6 v9.snd.fst.toNat 18), .int .i64 (ri a6 v9.snd.fst.toNat 19), .int .i64 (ri a6 v9.snd.fst.toNat 20), .int .i64 (ri a6 v9.snd.fst.toNat 21)]), (71, .tup [.agg [.int .i64 (v12.fst), .int .i64 (v12.snd.fst), .int .i64 (v12.snd.snd.fst)], .int .i64 (v12.snd.snd.snd.fst), .int .i64 (v12.snd.snd.snd.snd)]), (72, .agg [.int .i64 (ri a6 v9.snd.fst.toNat 0), .int .i64 (ri a6 v9.snd.fst.toNat 1), .int .i64 (ri a6 v9.snd.fst.toNat 2), .int .i64 (ri a6 v9.snd.fst.toNat 3), .int .i64 (ri a6 v9.snd.fst.toNat 4), .int .i64 (ri a6 v9.snd.fst.toNat 5), .int .i64 (ri a6 v9.snd.fst.toNat 6), .int .i64 (ri a6 v9.snd.fst.toNat 7), .int .i64 (ri a6 v9.snd.fst.toNat 8), .int .i64 (ri a6 v9.snd.fst.toNat 9), .int .i64 (ri a6 v9.snd.fst.toNat 10), .int .i64 (ri a6 v9.snd.fst.toNat 11), .sl (rn a6 v9.snd.fst.toNat 12) 100 (rr a6 v9.snd.fst.toNat 12), .sl (rn a6 v9.snd.fst.toNat 13) 21 (rr a6 v9.snd.fst.toNat 13), .int .i64 (ri a6 v9.snd.fst.toNat 14), .int .i64 (ri a6 v9.snd.fst.toNat 15), .int .i64 (ri a6 v9.snd.fst.toNat 16), .int .i64 (ri a6 v9.snd.fst.toNat 17), .int .i64 (ri a6 v9.snd.fst.toNat 18), .int .i64 (ri a6 v9.snd.fst.toNat 19), .int .i64 (ri a6 v9.snd.fst.toNat 20), .int .i64 (ri a6 v9.snd.fst.toNat 21)]), (73, .own 1), (74, .tup [.agg [.int .i64 (v12.fst), .int .i64 (v12.snd.fst), .int .i64 (v12.snd.snd.fst)], .int .i64 (v12.snd.snd.snd.fst), .int .i64 (v12.snd.snd.snd.snd)]), (75, .agg [.int .i64 (v12.fst), .int .i64 (v12.snd.fst), .int .i64 (v12.snd.snd.fst)]), (76, .int .i64 (v12.snd.snd.snd.fst)), (77, .int .i64 (v12.snd.snd.snd.snd)), (78, .int .i64 (v9.fst)), (79, .int .i64 (v12.snd.snd.snd.fst)), (80, .int .i64 (IntKind.i64.wrap (v9.fst + v12.snd.snd.snd.fst))), (81, .int .i64 (v12.snd.snd.snd.snd)), (82, .bool (v12.snd.snd.snd.snd == 0)), (83, .bool (v12.snd.snd.snd.snd == 0)), (86, .bool (v12.snd.snd.snd.snd == 0 && decide (131072 < IntKind.i64.wrap (v9.fst + v12.snd.snd.snd.fst))))], [(0, .box 39 [.int .i64 (0), .int .i64 (0), .int .i64 (0)]), (1, .arr true 23 (false) (v9.snd.snd)), (2, .box 70 [.int .i64 (ri a6 v9.snd.fst.toNat 0), .int .i64 (ri a6 v9.snd.fst.toNat 1), .int .i64 (ri a6 v9.snd.fst.toNat 2), .int .i64 (ri a6 v9.snd.fst.toNat 3), .int .i64 (ri a6 v9.snd.fst.toNat 4), .int .i64 (ri a6 v9.snd.fst.toNat 5), .int .i64 (ri a6 v9.snd.fst.toNat 6), .int .i64 (ri a6 v9.snd.fst.toNat 7), .int .i64 (ri a6 v9.snd.fst.toNat 8), .int .i64 (ri a6 v9.snd.fst.toNat 9), .int .i64 (ri a6 v9.snd.fst.toNat 10), .int .i64 (ri a6 v9.snd.fst.toNat 11), .sl (rn a6 v9.snd.fst.toNat 12) 100 (rr a6 v9.snd.fst.toNat 12), .sl (rn a6 v9.snd.fst.toNat 13) 21 (rr a6 v9.snd.fst.toNat 13), .int .i64 (ri a6 v9.snd.fst.toNat 14), .int .i64 (ri a6 v9.snd.fst.toNat 15), .int .i64 (ri a6 v9.snd.fst.toNat 16), .int .i64 (ri a6 v9.snd.fst.toNat 17), .int .i64 (ri a6 v9.snd.fst.toNat 18), .int .i64 (ri a6 v9.snd.fst.toNat 19), .int .i64 (ri a6 v9.snd.fst.toNat 20), .int .i64 (ri a6 v9.snd.fst.toNat 21)]), (3, .box 23 [.int .i64 (v12.fst), .int .i64 (v12.snd.fst), .int .i64 (v12.snd.snd.fst)])], 4, [], []⟩) h (fun Q h => ?_) (fun v13 h => ?_)
              · conv => whnf
                refine XSplit.mk (fun e => ?_) (fun e => ?_)
                · replace h := XSplit.t h e
                  conv => whnf
                  refine ⟨_, Weak.a ?_, h⟩; (conv => whnf); exact ⟨rfl, rfl, rfl, rfl, rfl⟩
                · replace h := XSplit.f h e
                  conv => whnf
                  refine ⟨_, Weak.a ?_, h⟩; (conv => whnf); exact ⟨rfl, rfl, rfl, rfl, rfl⟩
              · conv => whnf
                refine ASeq.go tab_ok mixed_ ?_
                conv => whnf
                refine XSplit.mk (fun e => ?_) (fun e => ?_)
                · replace h := XSplit.t h e
                  conv => whnf
                  refine ⟨_, ?_, Weak.a ?_, h⟩; exact rfl; (conv => whnf); exact ⟨rfl, rfl, rfl, rfl, rfl⟩
                · replace h := XSplit.f h e
                  conv => whnf
                  refine XNeed.mk (XNeed.c h) ?_; replace h := XNeed.x h
                  conv => whnf
                  refine ⟨_, Weak.a ?_, h⟩; (conv => whnf); exact ⟨rfl, rfl, rfl, rfl, rfl⟩
            · replace h := XSplit.f h e
              conv => whnf
              refine ⟨_, ?_, Weak.a ?_, h⟩; exact rfl; (conv => whnf); exact ⟨rfl, rfl, rfl, rfl, rfl⟩
          · rcases v with v10 | v11
            · conv => whnf
              refine ⟨_, Weak.a ?_, ?_, h⟩; (conv => whnf); exact ⟨rfl, rfl, rfl, rfl, rfl⟩; exact rfl
            · conv => whnf
              refine ⟨_, Weak.a ?_, ?_, h⟩; (conv => whnf); exact ⟨rfl, rfl, rfl, rfl, rfl⟩; exact rfl

theorem c_model_Shapes {a0 : Int} {a1 : Int} {a2 : Int} {a3 : Int} {a4 : Int} {a5 : Bool} {a6 : Rws} {a7 : Int} {Q : Int × Int × Int × Bool × Rws → Prop} {R : AV → List AB → Prop} (h : (g_model_Shapes a0 a1 a2 a3 a4 a5 a6 a7).run Q) (k : ∀ r, Q r → R (.tup [.own 0, .agg [.int .i64 (r.fst), .int .i64 (r.snd.fst), .int .i64 (r.snd.snd.fst)]]) ([.arr true 23 (r.snd.snd.snd.fst) (r.snd.snd.snd.snd)])) : ACalls Try.prog tab 28 [.agg [.int .i64 (a0), .int .i64 (a1), .int .i64 (a2), .int .i64 (a3), .int .i64 (a4), .sl (a5) 70 (a6), .int .i64 (a7)]] [] R := by
  refine ACalls.out (fun r => .tup [.own 0, .agg [.int .i64 (r.fst), .int .i64 (r.snd.fst), .int .i64 (r.snd.snd.fst)]]) (fun r => [.arr true 23 (r.snd.snd.snd.fst) (r.snd.snd.snd.snd)]) (Q := Q) (ACalls.introX (mv := mv) tab_ok mixed_ (fn := Try.f28) (by kernel_rfl) rfl (by kernel_rfl) (by kernel_rfl) (Nat.le_of_ble_eq_true rfl) ?_) (fun v => by first | exact ⟨rfl, Nat.le_of_ble_eq_true rfl⟩ | (cases v <;> exact ⟨rfl, Nat.le_of_ble_eq_true rfl⟩)) k
  conv => whnf
  refine ACalls.inn (c_model_whole (W.bindE h) (fun v1 h => ?_)) ⟨rfl, rfl⟩
  conv => whnf
  refine XDraw.d [0, 1, 2, 3] [[], [], [], [1]] (by decide +kernel) ?_
  conv => whnf
  refine ⟨_, Weak.a ?_, ?_, h⟩; (conv => whnf); exact ⟨rfl, rfl, rfl, rfl, rfl⟩; exact rfl

theorem c_span_Valid {a0 : Int} {a1 : Int} {Q : Bool → Prop} {R : AV → List AB → Prop} (h : (g_span_Valid a0 a1).run Q) (k : ∀ r, Q r → R (.bool (r)) ([])) : ACalls Try.prog tab 33 [.agg [.int .i64 (a0), .int .i64 (a1)]] [] R := by
  refine ACalls.out (fun r => .bool (r)) (fun r => []) (Q := Q) (ACalls.introX (mv := mv) tab_ok mixed_ (fn := Try.f33) (by kernel_rfl) rfl (by kernel_rfl) (by kernel_rfl) (Nat.le_of_ble_eq_true rfl) ?_) (fun v => by first | exact ⟨rfl, Nat.le_of_ble_eq_true rfl⟩ | (cases v <;> exact ⟨rfl, Nat.le_of_ble_eq_true rfl⟩)) k
  conv => whnf
  refine ⟨_, Weak.a ?_, ?_, h⟩; (conv => whnf); exact ⟨rfl, rfl, rfl, rfl, rfl⟩; exact rfl

theorem c_span_Holds {a0 : Int} {a1 : Int} {a2 : Int} {a3 : Int} {Q : Bool → Prop} {R : AV → List AB → Prop} (h : (g_span_Holds a0 a1 a2 a3).run Q) (k : ∀ r, Q r → R (.bool (r)) ([])) : ACalls Try.prog tab 47 [.agg [.int .i64 (a0), .int .i64 (a1)], .agg [.int .i64 (a2), .int .i64 (a3)]] [] R := by
  refine ACalls.out (fun r => .bool (r)) (fun r => []) (Q := Q) (ACalls.introX (mv := mv) tab_ok mixed_ (fn := Try.f47) (by kernel_rfl) rfl (by kernel_rfl) (by kernel_rfl) (Nat.le_of_ble_eq_true rfl) ?_) (fun v => by first | exact ⟨rfl, Nat.le_of_ble_eq_true rfl⟩ | (cases v <;> exact ⟨rfl, Nat.le_of_ble_eq_true rfl⟩)) k
  conv => whnf
  refine ACalls.inn (c_span_Valid (W.bindE h) (fun v1 h => ?_)) ⟨rfl, rfl⟩
  conv => whnf
  refine ⟨_, Weak.a ?_, ?_, h⟩; (conv => whnf); exact ⟨rfl, rfl, rfl, rfl, rfl⟩; exact rfl

theorem c_cert_values {a0 : Int} {a1 : Int} {Q : Bool → Prop} {R : AV → List AB → Prop} (h : (g_cert_values a0 a1).run Q) (k : ∀ r, Q r → R (.bool (r)) ([])) : ACalls Try.prog tab 31 [.agg [.int .i64 (a0), .int .i64 (a1)]] [] R := by
  refine ACalls.out (fun r => .bool (r)) (fun r => []) (Q := Q) (ACalls.introX (mv := mv) tab_ok mixed_ (fn := Try.f31) (by kernel_rfl) rfl (by kernel_rfl) (by kernel_rfl) (Nat.le_of_ble_eq_true rfl) ?_) (fun v => by first | exact ⟨rfl, Nat.le_of_ble_eq_true rfl⟩ | (cases v <;> exact ⟨rfl, Nat.le_of_ble_eq_true rfl⟩)) k
  conv => whnf
  refine ACalls.inn (c_span_Holds (W.bindE h) (fun v1 h => ?_)) ⟨rfl, rfl⟩
  conv => whnf
  refine ⟨_, Weak.a ?_, ?_, h⟩; (conv => whnf); exact ⟨rfl, rfl, rfl, rfl, rfl⟩; exact rfl

theorem c_cert_Form_1 {a0 : Int} {a1 : Int} {Q : Bool → Prop} {R : AV → List AB → Prop} (h : (g_cert_Form_1 a0 a1).run Q) (k : ∀ r, Q r → R (.bool (r)) ([])) : ACalls Try.prog tab 30 [.agg [.int .i64 (a0), .int .i64 (a1)]] [] R := by
  refine ACalls.out (fun r => .bool (r)) (fun r => []) (Q := Q) (ACalls.introX (mv := mv) tab_ok mixed_ (fn := Try.f30) (by kernel_rfl) rfl (by kernel_rfl) (by kernel_rfl) (Nat.le_of_ble_eq_true rfl) ?_) (fun v => by first | exact ⟨rfl, Nat.le_of_ble_eq_true rfl⟩ | (cases v <;> exact ⟨rfl, Nat.le_of_ble_eq_true rfl⟩)) k
  conv => whnf
  refine ACalls.inn (c_cert_values (W.bindE h) (fun v1 h => ?_)) ⟨rfl, rfl⟩
  conv => whnf
  refine ⟨_, Weak.a ?_, ?_, h⟩; (conv => whnf); exact ⟨rfl, rfl, rfl, rfl, rfl⟩; exact rfl

theorem c_slices_IndexFunc___api_Span_api_Span___cert_Form_1 {a0 : Bool} {a1 : Rws} {Q : Int → Prop} {R : AV → List AB → Prop} (h : (g_slices_IndexFunc___api_Span_api_Span___cert_Form_1 a0 a1).run Q) (k : ∀ r, Q r → R (.int .i64 (r)) ([])) : ACalls Try.prog tab 29 [.sl (a0) 59 (a1), .fn 30 [] []] [] R := by
  refine ACalls.out (fun r => .int .i64 (r)) (fun r => []) (Q := Q) (ACalls.introX (mv := mv) tab_ok mixed_ (fn := Try.f29) (by kernel_rfl) rfl (by kernel_rfl) (by kernel_rfl) (Nat.le_of_ble_eq_true rfl) ?_) (fun v => by first | exact ⟨rfl, Nat.le_of_ble_eq_true rfl⟩ | (cases v <;> exact ⟨rfl, Nat.le_of_ble_eq_true rfl⟩)) k
  conv => whnf
  refine ASeq.go tab_ok mixed_ ?_
  conv => whnf
  refine ALoop.ofW tab_ok mixed_ (fun v4 => ⟨[(0, .sl (a0) 59 (a1)), (1, .fn 30 [] []), (4, .int .i64 (0)), (7, .int .i64 ((↑(List.length a1) : Int))), (8, .int .i64 (v4))], [], 0, [], []⟩) (sx (fun v5 => (.ret, ⟨[(4, .int .i64 (v5))], [], 0, [], []⟩)) (fun v6 => (.exit 0, ⟨[(4, .int .i64 (0))], [], 0, [], []⟩))) (W.bindE h) (Weak.a ?_) (fun v4 J_ Q h => ?_) (fun v h => ?_)
  · conv => whnf
    exact ⟨rfl, rfl, rfl, rfl, rfl⟩
  · conv => whnf
    refine ASeq.go tab_ok mixed_ ?_
    conv => whnf
    refine XSplit.mk (fun e => ?_) (fun e => ?_)
    · replace h := XSplit.t h e
      conv => whnf
      refine ASeq.go tab_ok mixed_ ?_
      conv => whnf
      refine XNeed.mk (XNeed.c h) ?_; replace h := XNeed.x h
      conv => whnf
      refine ACalls.inn (c_cert_Form_1 (W.bindE h) (fun v7 h => ?_)) ⟨rfl, rfl⟩
      conv => whnf
      refine XSplit.mk (fun e => ?_) (fun e => ?_)
      · replace h := XSplit.t h e
        conv => whnf
        refine ⟨_, ?_, Weak.a ?_, h⟩; exact rfl; (conv => whnf); exact ⟨rfl, rfl, rfl, rfl, rfl⟩
      · replace h := XSplit.f h e
        conv => whnf
        refine ⟨_, Weak.a ?_, h⟩; (conv => whnf); exact ⟨rfl, rfl, rfl, rfl, rfl⟩
    · replace h := XSplit.f h e
      conv => whnf
      refine ⟨_, ?_, Weak.a ?_, h⟩; exact rfl; (conv => whnf); exact ⟨rfl, rfl, rfl, rfl, rfl⟩
  · rcases v with v5 | v6
    · conv => whnf
      refine ⟨_, Weak.a ?_, ?_, h⟩; (conv => whnf); exact ⟨rfl, rfl, rfl, rfl, rfl⟩; exact rfl
    · conv => whnf
      refine ⟨_, Weak.a ?_, ?_, h⟩; (conv => whnf); exact ⟨rfl, rfl, rfl, rfl, rfl⟩; exact rfl

theorem c_model_Reduces {a0 : Int} {Q : Bool → Prop} {R : AV → List AB → Prop} (h : (g_model_Reduces a0).run Q) (k : ∀ r, Q r → R (.bool (r)) ([])) : ACalls Try.prog tab 32 [.int .i64 (a0)] [] R := by
  refine ACalls.out (fun r => .bool (r)) (fun r => []) (Q := Q) (ACalls.introX (mv := mv) tab_ok mixed_ (fn := Try.f32) (by kernel_rfl) rfl (by kernel_rfl) (by kernel_rfl) (Nat.le_of_ble_eq_true rfl) ?_) (fun v => by first | exact ⟨rfl, Nat.le_of_ble_eq_true rfl⟩ | (cases v <;> exact ⟨rfl, Nat.le_of_ble_eq_true rfl⟩)) k
  conv => whnf
  refine ASeq.go tab_ok mixed_ ?_
  conv => whnf
  refine ASeq.joinW tab_ok mixed_ (fun v1 => ⟨[(2, .kb false), (4, .bool (v1))], [], 0, [], []⟩) h (fun Q h => ?_) (fun v1 h => ?_)
  · conv => whnf
    refine XSplit.mk (fun e => ?_) (fun e => ?_)
    · replace h := XSplit.t h e
      conv => whnf
      refine ⟨_, Weak.a ?_, h⟩; (conv => whnf); exact ⟨rfl, rfl, rfl, rfl, rfl⟩
    · replace h := XSplit.f h e
      conv => whnf
      refine XSplit.mk (fun e => ?_) (fun e => ?_)
      · replace h := XSplit.t h e
        conv => whnf
        refine ⟨_, Weak.a ?_, h⟩; (conv => whnf); exact ⟨rfl, rfl, rfl, rfl, rfl⟩
      · replace h := XSplit.f h e
        conv => whnf
        refine XSplit.mk (fun e => ?_) (fun e => ?_)
        · replace h := XSplit.t h e
          conv => whnf
          refine ⟨_, Weak.a ?_, h⟩; (conv => whnf); exact ⟨rfl, rfl, rfl, rfl, rfl⟩
        · replace h := XSplit.f h e
          conv => whnf
          refine ⟨_, Weak.a ?_, h⟩; (conv => whnf); exact ⟨rfl, rfl, rfl, rfl, rfl⟩
  · conv => whnf
    refine XSplit.mk (fun e => ?_) (fun e => ?_)
    · replace h := XSplit.t h e
      conv => whnf
      refine ⟨_, Weak.a ?_, ?_, h⟩; (conv => whnf); exact ⟨rfl, rfl, rfl, rfl, rfl⟩; exact rfl
    · replace h := XSplit.f h e
      conv => whnf
      refine ⟨_, Weak.a ?_, ?_, h⟩; (conv => whnf); exact ⟨rfl, rfl, rfl, rfl, rfl⟩; exact rfl

theorem c_cert_Form {a0 : Int} {a1 : Int} {a2 : Int} {a3 : Int} {a4 : Int} {a5 : Bool} {a6 : Rws} {a7 : Int} {a8 : Bool} {a9 : Rws} {a10 : Bool} {a11 : Rws} {Q : Int × Int × Int → Prop} {R : AV → List AB → Prop} (h : (g_cert_Form a0 a1 a2 a3 a4 a5 a6 a7 a8 a9 a10 a11).run Q) (k : ∀ r, Q r → R (.agg [.int .i64 (r.fst), .int .i64 (r.snd.fst), .int .i64 (r.snd.snd)]) ([])) : ACalls Try.prog tab 12 [.agg [.int .i64 (a0), .int .i64 (a1), .int .i64 (a2), .int .i64 (a3), .int .i64 (a4), .sl (a5) 70 (a6), .int .i64 (a7)], .agg [.sl (a8) 59 (a9), .sl (a10) 56 (a11)]] [] R := by
  refine ACalls.out (fun r => .agg [.int .i64 (r.fst), .int .i64 (r.snd.fst), .int .i64 (r.snd.snd)]) (fun r => []) (Q := Q) (ACalls.introX (mv := mv) tab_ok mixed_ (fn := Try.f12) (by kernel_rfl) rfl (by kernel_rfl) (by kernel_rfl) (Nat.le_of_ble_eq_true rfl) ?_) (fun v => by first | exact ⟨rfl, Nat.le_of_ble_eq_true rfl⟩ | (cases v <;> exact ⟨rfl, Nat.le_of_ble_eq_true rfl⟩)) k
  conv => whnf
  refine ACalls.inn (c_model_Shapes (W.bindE h) (fun v13 h => ?_)) ⟨rfl, rfl⟩
  conv => whnf
  refine ASeq.go tab_ok mixed_ ?_
  conv => whnf
  refine XSplit.mk (fun e => ?_) (fun e => ?_)
  · replace h := XSplit.t h e
    conv => whnf
    refine ⟨_, Weak.a ?_, ?_, h⟩; (conv => whnf); exact ⟨rfl, rfl, rfl, rfl, rfl⟩; exact rfl
  · replace h := XSplit.f h e
    conv => whnf
    refine ASeq.go tab_ok mixed_ ?_
    conv => whnf
    refine XSplit.mk (fun e => ?_) (fun e => ?_)
    · replace h := XSplit.t h e
      conv => whnf
      refine ⟨_, Weak.a ?_, ?_, h⟩; (conv => whnf); exact ⟨rfl, rfl, rfl, rfl, rfl⟩; exact rfl
    · replace h := XSplit.f h e
      conv => whnf
      refine ASeq.go tab_ok mixed_ ?_
      conv => whnf
      refine ACalls.inn (c_slices_IndexFunc___api_Span_api_Span___cert_Form_1 (W.bindE h) (fun v14 h => ?_)) ⟨rfl, rfl⟩
      conv => whnf
      refine XSplit.mk (fun e => ?_) (fun e => ?_)
      · replace h := XSplit.t h e
        conv => whnf
        refine ⟨_, Weak.a ?_, ?_, h⟩; (conv => whnf); exact ⟨rfl, rfl, rfl, rfl, rfl⟩; exact rfl
      · replace h := XSplit.f h e
        conv => whnf
        refine ASeq.go tab_ok mixed_ ?_
        conv => whnf
        refine ALoop.ofW tab_ok mixed_ (fun v15 => ⟨[(2, .ptr 0 0), (4, .ptr 1 0), (5, .own 2), (46, .sl (a10) 56 (a11)), (47, .int .i64 ((↑(List.length a11) : Int))), (48, .int .i64 (v15))], [(0, .box 26 [.int .i64 (a0), .int .i64 (a1), .int .i64 (a2), .int .i64 (a3), .int .i64 (a4), .sl (a5) 70 (a6), .int .i64 (a7)]), (1, .box 39 [.int .i64 (0), .int .i64 (0), .int .i64 (0)]), (2, .arr true 23 (v13.snd.snd.snd.fst) (v13.snd.snd.snd.snd))], 3, [], []⟩) (sx (fun v16 => (.ret, ⟨[(4, .ptr 0 0)], [(0, .box 39 [.int .i64 (v16.fst), .int .i64 (v16.snd.fst), .int .i64 (v16.snd.snd)])], 1, [], []⟩)) (fun v17 => (.exit 0, ⟨[(4, .ptr 0 0)], [(0, .box 39 [.int .i64 (0), .int .i64 (0), .int .i64 (0)])], 1, [], []⟩))) (W.bindE h) (Weak.a ?_) (fun v15 J_ Q h => ?_) (fun v h => ?_)
        · conv => whnf
          exact ⟨rfl, rfl, rfl, rfl, rfl⟩
        · conv => whnf
          refine ASeq.go tab_ok mixed_ ?_
          conv => whnf
          refine XSplit.mk (fun e => ?_) (fun e => ?_)
          · replace h := XSplit.t h e
            conv => whnf
            refine ASeq.go tab_ok mixed_ ?_
            conv => whnf
            refine XNeed.mk (XNeed.c h) ?_; replace h := XNeed.x h
            conv => whnf
            refine ASeq.joinW tab_ok mixed_ (fun v18 => ⟨[(2, .ptr 0 0), (4, .ptr 1 0), (5, .own 2), (8, .int .i64 (v15)), (9, .sl (rn a11 v15.toNat 0) 61 (rr a11 v15.toNat 0)), (10, .int .i64 (v18.fst)), (46, .sl (a10) 56 (a11)), (47, .int .i64 ((↑(List.length a11) : Int))), (48, .int .i64 (v15)), (49, .bool (decide (v15 < (↑(List.length a11) : Int)))), (50, .int .i64 (v15)), (51, .rel 56 (a11) (v15.toNat) 0), (52, .sl (rn a11 v15.toNat 0) 61 (rr a11 v15.toNat 0)), (53, .ptr 0 5), (54, .sl (a5) 70 (a6)), (55, .int .i64 (v15)), (56, .rel 70 (a6) (v15.toNat) 0), (57, .rel 70 (a6) (v15.toNat) 0), (58, .int .i64 (ri a6 v15.toNat 0)), (59, .bool (v18.snd))], [(0, .box 26 [.int .i64 (a0), .int .i64 (a1), .int .i64 (a2), .int .i64 (a3), .int .i64 (a4), .sl (a5) 70 (a6), .int .i64 (a7)]), (1, .box 39 [.int .i64 (0), .int .i64 (0), .int .i64 (0)]), (2, .arr true 23 (v13.snd.snd.snd.fst) (v13.snd.snd.snd.snd))], 3, [], []⟩) h (fun Q h => ?_) (fun v18 h => ?_)
            · conv => whnf
              refine XNeed.mk (XNeed.c h) ?_; replace h := XNeed.x h
              conv => whnf
              refine ACalls.inn (c_model_Reduces (W.bindE h) (fun v19 h => ?_)) ⟨rfl, rfl⟩
              conv => whnf
              refine XSplit.mk (fun e => ?_) (fun e => ?_)
              · replace h := XSplit.t h e
                conv => whnf
                refine XNeed.mk (XNeed.c h) ?_; replace h := XNeed.x h
                conv => whnf
                refine ⟨_, Weak.a ?_, h⟩; (conv => whnf); exact ⟨rfl, rfl, rfl, rfl, rfl⟩
              · replace h := XSplit.f h e
                conv => whnf
                refine ⟨_, Weak.a ?_, h⟩; (conv => whnf); exact ⟨rfl, rfl, rfl, rfl, rfl⟩
            · conv => whnf
              refine ASeq.go tab_ok mixed_ ?_
              conv => whnf
              refine XSplit.mk (fun e => ?_) (fun e => ?_)
              · replace h := XSplit.t h e
                conv => whnf
                refine ⟨_, ?_, Weak.a ?_, h⟩; exact rfl; (conv => whnf); exact ⟨rfl, rfl, rfl, rfl, rfl⟩
              · replace h := XSplit.f h e
                conv => whnf
                refine ALoop.ofW tab_ok mixed_ (fun v20 => ⟨[(2, .ptr 0 0), (4, .ptr 1 0), (5, .own 2), (8, .int .i64 (v15)), (9, .sl (rn a11 v15.toNat 0) 61 (rr a11 v15.toNat 0)), (10, .int .i64 (v18.fst)), (46, .sl (a10) 56 (a11)), (47, .int .i64 ((↑(List.length a11) : Int))), (48, .int .i64 (v15)), (49, .bool (decide (v15 < (↑(List.length a11) : Int)))), (50, .int .i64 (v15)), (51, .rel 56 (a11) (v15.toNat) 0), (52, .sl (rn a11 v15.toNat 0) 61 (rr a11 v15.toNat 0)), (53, .ptr 0 5), (54, .sl (a5) 70 (a6)), (55, .int .i64 (v15)), (56, .rel 70 (a6) (v15.toNat) 0), (57, .rel 70 (a6) (v15.toNat) 0), (58, .int .i64 (ri a6 v15.toNat 0)), (59, .bool (v18.snd)), (66, .sl (rn a11 v15.toNat 0) 61 (rr a11 v15.toNat 0)), (67, .int .i64 ((↑(List.length (rr a11 v15.toNat 0)) : Int))), (68, .int .i64 (v18.fst)), (69, .bool ((↑(List.length (rr a11 v15.toNat 0)) : Int) != v18.fst)), (73, .sl (rn a11 v15.toNat 0) 61 (rr a11 v15.toNat 0)), (74, .int .i64 ((↑(List.length (rr a11 v15.toNat 0)) : Int))), (75, .int .i64 (v20))], [(0, .box 26 [.int .i64 (a0), .int .i64 (a1), .int .i64 (a2), .int .i64 (a3), .int .i64 (a4), .sl (a5) 70 (a6), .int .i64 (a7)]), (1, .box 39 [.int .i64 (0), .int .i64 (0), .int .i64 (0)]), (2, .arr true 23 (v13.snd.snd.snd.fst) (v13.snd.snd.snd.snd))], 3, [], []⟩) (sx (fun v21 => (.ret, ⟨[(4, .ptr 0 0)], [(0, .box 39 [.int .i64 (30), .int .i64 (IntKind.i64.wrap (v15 + 1)), .int .i64 (v21)])], 1, [], []⟩)) (fun v22 => (.exit 2, ⟨[(2, .ptr 0 0), (4, .ptr 1 0), (5, .own 2), (8, .int .i64 (v15)), (9, .sl (rn a11 v15.toNat 0) 61 (rr a11 v15.toNat 0)), (10, .int .i64 (v18.fst)), (46, .sl (a10) 56 (a11)), (47, .int .i64 ((↑(List.length a11) : Int))), (48, .int .i64 (v15)), (49, .bool (decide (v15 < (↑(List.length a11) : Int)))), (50, .int .i64 (v15)), (51, .rel 56 (a11) (v15.toNat) 0), (52, .sl (rn a11 v15.toNat 0) 61 (rr a11 v15.toNat 0)), (53, .ptr 0 5), (54, .sl (a5) 70 (a6)), (55, .int .i64 (v15)), (56, .rel 70 (a6) (v15.toNat) 0), (57, .rel 70 (a6) (v15.toNat) 0), (58, .int .i64 (ri a6 v15.toNat 0)), (59, .bool (v18.snd)), (66, .sl (rn a11 v15.toNat 0) 61 (rr a11 v15.toNat 0)), (67, .int .i64 ((↑(List.length (rr a11 v15.toNat 0)) : Int))), (68, .int .i64 (v18.fst)), (69, .bool ((↑(List.length (rr a11 v15.toNat 0)) : Int) != v18.fst)), (73, .sl (rn a11 v15.toNat 0) 61 (rr a11 v15.toNat 0)), (74, .int .i64 ((↑(List.length (rr a11 v15.toNat 0)) : Int))), (75, .int .i64 (v22.fst)), (76, .bool (v22.snd))], [(0, .box 26 [.int .i64 (a0), .int .i64 (a1), .int .i64 (a2), .int .i64 (a3), .int .i64 (a4), .sl (a5) 70 (a6), .int .i64 (a7)]), (1, .box 39 [.int .i64 (0), .int .i64 (0), .int .i64 (0)]), (2, .arr true 23 (v13.snd.snd.snd.fst) (v13.snd.snd.snd.snd))], 3, [], []⟩))) (W.bindE h) (Weak.a ?_) (fun v20 J_ Q h => ?_) (fun v h => ?_)
                · conv => whnf
                  exact ⟨rfl, rfl, rfl, rfl, rfl⟩
                · conv => whnf
                  refine ASeq.go tab_ok mixed_ ?_
                  conv => whnf
                  refine XSplit.mk (fun e => ?_) (fun e => ?_)
                  · replace h := XSplit.t h e
                    conv => whnf
                    refine ASeq.go tab_ok mixed_ ?_
                    conv => whnf
                    refine XNeed.mk (XNeed.c h) ?_; replace h := XNeed.x h
                    conv => whnf
                    refine ASeq.joinW tab_ok mixed_ (fun v23 => ⟨[(2, .ptr 0 0), (4, .ptr 1 0), (5, .own 2), (8, .int .i64 (v15)), (9, .sl (rn a11 v15.toNat 0) 61 (rr a11 v15.toNat 0)), (10, .int .i64 (v18.fst)), (11, .int .i64 (v20)), (12, .ptr 3 0), (46, .sl (a10) 56 (a11)), (47, .int .i64 ((↑(List.length a11) : Int))), (48, .int .i64 (v15)), (49, .bool (decide (v15 < (↑(List.length a11) : Int)))), (50, .int .i64 (v15)), (51, .rel 56 (a11) (v15.toNat) 0), (52, .sl (rn a11 v15.toNat 0) 61 (rr a11 v15.toNat 0)), (53, .ptr 0 5), (54, .sl (a5) 70 (a6)), (55, .int .i64 (v15)), (56, .rel 70 (a6) (v15.toNat) 0), (57, .rel 70 (a6) (v15.toNat) 0), (58, .int .i64 (ri a6 v15.toNat 0)), (59, .bool (v18.snd)), (66, .sl (rn a11 v15.toNat 0) 61 (rr a11 v15.toNat 0)), (67, .int .i64 ((↑(List.length (rr a11 v15.toNat 0)) : Int))), (68, .int .i64 (v18.fst)), (69, .bool ((↑(List.length (rr a11 v15.toNat 0)) : Int) != v18.fst)), (73, .sl (rn a11 v15.toNat 0) 61 (rr a11 v15.toNat 0)), (74, .int .i64 ((↑(List.length (rr a11 v15.toNat 0)) : Int))), (75, .int .i64 (v20)), (76, .bool (decide (v20 < (↑(List.length (rr a11 v15.toNat 0)) : Int)))), (77, .int .i64 (v20)), (78, .rel 61 (rr a11 v15.toNat 0) (v20.toNat) 0), (79, .agg [.int .i64 (ri (rr a11 v15.toNat 0) v20.toNat 0), .int .i64 (ri (rr a11 v15.toNat 0) v20.toNat 1), .int .i64 (ri (rr a11 v15.toNat 0) v20.toNat 2), .int .i64 (ri (rr a11 v15.toNat 0) v20.toNat 3), .int .i64 (ri (rr a11 v15.toNat 0) v20.toNat 4), .int .i64 (ri (rr a11 v15.toNat 0) v20.toNat 5)]), (80, .ptr 3 2), (81, .agg [.int .i64 (ri (rr a11 v15.toNat 0) v20.toNat 2), .int .i64 (ri (rr a11 v15.toNat 0) v20.toNat 3)]), (82, .bool (v23.fst)), (83, .bool (v23.snd.fst)), (84, .bool (v23.snd.snd.fst)), (89, .bool (v23.snd.snd.snd))], [(0, .box 26 [.int .i64 (a0), .int .i64 (a1), .int .i64 (a2), .int .i64 (a3), .int .i64 (a4), .sl (a5) 70 (a6), .int .i64 (a7)]), (1, .box 39 [.int .i64 (0), .int .i64 (0), .int .i64 (0)]), (2, .arr true 23 (v13.snd.snd.snd.fst) (v13.snd.snd.snd.snd)), (3, .box 61 [.int .i64 (ri (rr a11 v15.toNat 0) v20.toNat 0), .int .i64 (ri (rr a11 v15.toNat 0) v20.toNat 1), .int .i64 (ri (rr a11 v15.toNat 0) v20.toNat 2), .int .i64 (ri (rr a11 v15.toNat 0) v20.toNat 3), .int .i64 (ri (rr a11 v15.toNat 0) v20.toNat 4), .int .i64 (ri (rr a11 v15.toNat 0) v20.toNat 5)])], 4, [], []⟩) h (fun Q h => ?_) (fun v23 h => ?_)
                    · conv => whnf
                      refine ACalls.inn (c_span_Valid (W.bindE h) (fun v24 h => ?_)) ⟨rfl, rfl⟩
                      conv => whnf
                      refine XSplit.mk (fun e => ?_) (fun e => ?_)
                      · replace h := XSplit.t h e
                        conv => whnf
                        refine ⟨_, Weak.a ?_, h⟩; (conv => whnf); exact ⟨rfl, rfl, rfl, rfl, rfl⟩
                      · replace h := XSplit.f h e
                        conv => whnf
                        refine ACalls.inn (c_span_Valid (W.bindE h) (fun v25 h => ?_)) ⟨rfl, rfl⟩
                        conv => whnf
                        refine ⟨_, Weak.a ?_, h⟩; (conv => whnf); exact ⟨rfl, rfl, rfl, rfl, rfl⟩
                    · conv => whnf
                      refine XSplit.mk (fun e => ?_) (fun e => ?_)
                      · replace h := XSplit.t h e
                        conv => whnf
                        refine ⟨_, ?_, Weak.a ?_, h⟩; exact rfl; (conv => whnf); exact ⟨rfl, rfl, rfl, rfl, rfl⟩
                      · replace h := XSplit.f h e
                        conv => whnf
                        refine ⟨_, Weak.a ?_, h⟩; (conv => whnf); exact ⟨rfl, rfl, rfl, rfl, rfl⟩
                  · replace h := XSplit.f h e
                    conv => whnf
                    refine ⟨_, ?_, Weak.a ?_, h⟩; exact rfl; (conv => whnf); exact ⟨rfl, rfl, rfl, rfl, rfl⟩
                · rcases v with v21 | v22
                  · conv => whnf
                    refine ⟨_, ?_, Weak.a ?_, h⟩; exact rfl; (conv => whnf); exact ⟨rfl, rfl, rfl, rfl, rfl⟩
                  · conv => whnf
                    refine ⟨_, Weak.a ?_, h⟩; (conv => whnf); exact ⟨rfl, rfl, rfl, rfl, rfl⟩
          · replace h := XSplit.f h e
            conv => whnf
            refine ⟨_, ?_, Weak.a ?_, h⟩; exact rfl; (conv => whnf); exact ⟨rfl, rfl, rfl, rfl, rfl⟩
        · rcases v with v16 | v17
          · conv => whnf
            refine ⟨_, Weak.a ?_, ?_, h⟩; (conv => whnf); exact ⟨rfl, rfl, rfl, rfl, rfl⟩; exact rfl
          · conv => whnf
            refine ⟨_, Weak.a ?_, ?_, h⟩; (conv => whnf); exact ⟨rfl, rfl, rfl, rfl, rfl⟩; exact rfl

theorem c_terms_find {a0 : Int} {a1 : Int} {a2 : Int} {a3 : Int} {a4 : Int} {a5 : Bool} {a6 : Rws} {a7 : Int} {a8 : Int} {Q : Int × Int × Int × Int × Int × Int × Int × Int × Int × Int × Int × Int × Bool × Rws × Bool × Rws × Int × Int × Int × Int × Int × Int × Int × Int × Int × Int × Int × Int × Int × Int × Int × Int → Prop} {R : AV → List AB → Prop} (h : (g_terms_find a0 a1 a2 a3 a4 a5 a6 a7 a8).run Q) (k : ∀ r, Q r → R (.tup [.agg [.int .i64 (r.fst), .int .i64 (r.snd.fst), .int .i64 (r.snd.snd.fst), .int .i64 (r.snd.snd.snd.fst), .int .i64 (r.snd.snd.snd.snd.fst), .int .i64 (r.snd.snd.snd.snd.snd.fst), .int .i64 (r.snd.snd.snd.snd.snd.snd.fst), .int .i64 (r.snd.snd.snd.snd.snd.snd.snd.fst), .int .i64 (r.snd.snd.snd.snd.snd.snd.snd.snd.fst), .int .i64 (r.snd.snd.snd.snd.snd.snd.snd.snd.snd.fst), .int .i64 (r.snd.snd.snd.snd.snd.snd.snd.snd.snd.snd.fst), .int .i64 (r.snd.snd.snd.snd.snd.snd.snd.snd.snd.snd.snd.fst), .sl (r.snd.snd.snd.snd.snd.snd.snd.snd.snd.snd.snd.snd.fst) 100 (r.snd.snd.snd.snd.snd.snd.snd.snd.snd.snd.snd.snd.snd.fst), .sl (r.snd.snd.snd.snd.snd.snd.snd.snd.snd.snd.snd.snd.snd.snd.fst) 21 (r.snd.snd.snd.snd.snd.snd.snd.snd.snd.snd.snd.snd.snd.snd.snd.fst), .int .i64 (r.snd.snd.snd.snd.snd.snd.snd.snd.snd.snd.snd.snd.snd.snd.snd.snd.fst), .int .i64 (r.snd.snd.snd.snd.snd.snd.snd.snd.snd.snd.snd.snd.snd.snd.snd.snd.snd.fst), .int .i64 (r.snd.snd.snd.snd.snd.snd.snd.snd.snd.snd.snd.snd.snd.snd.snd.snd.snd.snd.fst), .int .i64 (r.snd.snd.snd.snd.snd.snd.snd.snd.snd.snd.snd.snd.snd.snd.snd.snd.snd.snd.snd.fst), .int .i64 (r.snd.snd.snd.snd.snd.snd.snd.snd.snd.snd.snd.snd.snd.snd.snd.snd.snd.snd.snd.snd.fst), .int .i64 (r.snd.snd.snd.snd.snd.snd.snd.snd.snd.snd.snd.snd.snd.snd.snd.snd.snd.snd.snd.snd.snd.fst), .int .i64 (r.snd.snd.snd.snd.snd.snd.snd.snd.snd.snd.snd.snd.snd.snd.snd.snd.snd.snd.snd.snd.snd.snd.fst), .int .i64 (r.snd.snd.snd.snd.snd.snd.snd.snd.snd.snd.snd.snd.snd.snd.snd.snd.snd.snd.snd.snd.snd.snd.snd.fst), .int .i64 (r.snd.snd.snd.snd.snd.snd.snd.snd.snd.snd.snd.snd.snd.snd.snd.snd.snd.snd.snd.snd.snd.snd.snd.snd.fst), .int .i64 (r.snd.snd.snd.snd.snd.snd.snd.snd.snd.snd.snd.snd.snd.snd.snd.snd.snd.snd.snd.snd.snd.snd.snd.snd.snd.fst), .int .i64 (r.snd.snd.snd.snd.snd.snd.snd.snd.snd.snd.snd.snd.snd.snd.snd.snd.snd.snd.snd.snd.snd.snd.snd.snd.snd.snd.fst), .int .i64 (r.snd.snd.snd.snd.snd.snd.snd.snd.snd.snd.snd.snd.snd.snd.snd.snd.snd.snd.snd.snd.snd.snd.snd.snd.snd.snd.snd.fst), .int .i64 (r.snd.snd.snd.snd.snd.snd.snd.snd.snd.snd.snd.snd.snd.snd.snd.snd.snd.snd.snd.snd.snd.snd.snd.snd.snd.snd.snd.snd.fst), .int .i64 (r.snd.snd.snd.snd.snd.snd.snd.snd.snd.snd.snd.snd.snd.snd.snd.snd.snd.snd.snd.snd.snd.snd.snd.snd.snd.snd.snd.snd.snd.fst), .int .i64 (r.snd.snd.snd.snd.snd.snd.snd.snd.snd.snd.snd.snd.snd.snd.snd.snd.snd.snd.snd.snd.snd.snd.snd.snd.snd.snd.snd.snd.snd.snd.fst)], .int .i64 (r.snd.snd.snd.snd.snd.snd.snd.snd.snd.snd.snd.snd.snd.snd.snd.snd.snd.snd.snd.snd.snd.snd.snd.snd.snd.snd.snd.snd.snd.snd.snd)]) ([])) : ACalls Try.prog tab 43 [.agg [.int .i64 (a0), .int .i64 (a1), .int .i64 (a2), .int .i64 (a3), .int .i64 (a4), .sl (a5) 70 (a6), .int .i64 (a7)], .int .i64 (a8)] [] R := by
  refine ACalls.out (fun r => .tup [.agg [.int .i64 (r.fst), .int .i64 (r.snd.fst), .int .i64 (r.snd.snd.fst), .int .i64 (r.snd.snd.snd.fst), .int .i64 (r.snd.snd.snd.snd.fst), .int .i64 (r.snd.snd.snd.snd.snd.fst), .int .i64 (r.snd.snd.snd.snd.snd.snd.fst), .int .i64 (r.snd.snd.snd.snd.snd.snd.snd.fst), .int .i64 (r.snd.snd.snd.snd.snd.snd.snd.snd.fst), .int .i64 (r.snd.snd.snd.snd.snd.snd.snd.snd.snd.fst), .int .i64 (r.snd.snd.snd.snd.snd.snd.snd.snd.snd.snd.fst), .int .i64 (r.snd.snd.snd.snd.snd.snd.snd.snd.snd.snd.snd.fst), .sl (r.snd.snd.snd.snd.snd.snd.snd.snd.snd.snd.snd.snd.fst) 100 (r.snd.snd.snd.snd.snd.snd.snd.snd.snd.snd.snd.snd.snd.fst), .sl (r.snd.snd.snd.snd.snd.snd.snd.snd.snd.snd.snd.snd.snd.snd.fst) 21 (r.snd.snd.snd.snd.snd.snd.snd.snd.snd.snd.snd.snd.snd.snd.snd.fst), .int .i64 (r.snd.snd.snd.snd.snd.snd.snd.snd.snd.snd.snd.snd.snd.snd.snd.snd.fst), .int .i64 (r.snd.snd.snd.snd.snd.snd.snd.snd.snd.snd.snd.snd.snd.snd.snd.snd.snd.fst), .int .i64 (r.snd.snd.snd.snd.snd.snd.snd.snd.snd.snd.snd.snd.snd.snd.snd.snd.snd.snd.fst), .int .i64 (r.snd.snd.snd.snd.snd.snd.snd.snd.snd.snd.snd.snd.snd.snd.snd.snd.snd.snd.snd.fst), .int .i64 (r.snd.snd.snd.snd.snd.snd.snd.snd.snd.snd.snd.snd.snd.snd.snd.snd.snd.snd.snd.snd.fst), .int .i64 (r.snd.snd.snd.snd.snd.snd.snd.snd.snd.snd.snd.snd.snd.snd.snd.snd.snd.snd.snd.snd.snd.fst), .int .i64 (r.snd.snd.snd.snd.snd.snd.snd.snd.snd.snd.snd.snd.snd.snd.snd.snd.snd.snd.snd.snd.snd.snd.fst), .int .i64 (r.snd.snd.snd.snd.snd.snd.snd.snd.snd.snd.snd.snd.snd.snd.snd.snd.snd.snd.snd.snd.snd.snd.snd.fst), .int .i64 (r.snd.snd.snd.snd.snd.snd.snd.snd.snd.snd.snd.snd.snd.snd.snd.snd.snd.snd.snd.snd.snd.snd.snd.snd.fst), .int .i64 (r.snd.snd.snd.snd.snd.snd.snd.snd.snd.snd.snd.snd.snd.snd.snd.snd.snd.snd.snd.snd.snd.snd.snd.snd.snd.fst), .int .i64 (r.snd.snd.snd.snd.snd.snd.snd.snd.snd.snd.snd.snd.snd.snd.snd.snd.snd.snd.snd.snd.snd.snd.snd.snd.snd.snd.fst), .int .i64 (r.snd.snd.snd.snd.snd.snd.snd.snd.snd.snd.snd.snd.snd.snd.snd.snd.snd.snd.snd.snd.snd.snd.snd.snd.snd.snd.snd.fst), .int .i64 (r.snd.snd.snd.snd.snd.snd.snd.snd.snd.snd.snd.snd.snd.snd.snd.snd.snd.snd.snd.snd.snd.snd.snd.snd.snd.snd.snd.snd.fst), .int .i64 (r.snd.snd.snd.snd.snd.snd.snd.snd.snd.snd.snd.snd.snd.snd.snd.snd.snd.snd.snd.snd.snd.snd.snd.snd.snd.snd.snd.snd.snd.fst), .int .i64 (r.snd.snd.snd.snd.snd.snd.snd.snd.snd.snd.snd.snd.snd.snd.snd.snd.snd.snd.snd.snd.snd.snd.snd.snd.snd.snd.snd.snd.snd.snd.fst)], .int .i64 (r.snd.snd.snd.snd.snd.snd.snd.snd.snd.snd.snd.snd.snd.snd.snd.snd.snd.snd.snd.snd.snd.snd.snd.snd.snd.snd.snd.snd.snd.snd.snd)]) (fun r => []) (Q := Q) (ACalls.introX (mv := mv) tab_ok mixed_ (fn := Try.f43) (by kernel_rfl) rfl (by kernel_rfl) (by kernel_rfl) (Nat.le_of_ble_eq_true rfl) ?_) (fun v => by first | exact ⟨rfl, Nat.le_of_ble_eq_true rfl⟩ | (cases v <;> exact ⟨rfl, Nat.le_of_ble_eq_true rfl⟩)) k
  conv => whnf
  refine ACalls.inn (c_model_Shapes (W.bindE h) (fun v3 h => ?_)) ⟨rfl, rfl⟩
  conv => whnf
  refine ASeq.go tab_ok mixed_ ?_
  conv => whnf
  refine XSplit.mk (fun e => ?_) (fun e => ?_)
  · replace h := XSplit.t h e
    conv => whnf
    refine XDraw.d [0, 1, 2, 3, 4] [[], [], [], [1], []] (by decide +kernel) ?_
    conv => whnf
    refine ⟨_, Weak.a ?_, ?_, h⟩; (conv => whnf); exact ⟨rfl, rfl, rfl, rfl, rfl⟩; exact rfl
  · replace h := XSplit.f h e
    conv => whnf
    refine XSplit.mk (fun e => ?_) (fun e => ?_)
    · replace h := XSplit.t h e
      conv => whnf
      refine ⟨_, Weak.a ?_, ?_, h⟩; (conv => whnf); exact ⟨rfl, rfl, rfl, rfl, rfl⟩; exact rfl
    · replace h := XSplit.f h e
      conv => whnf
      refine XNeed.mk (XNeed.c h) ?_; replace h := XNeed.x h
      conv => whnf
      refine ACalls.inn (c_model_Reduces (W.bindE h) (fun v4 h => ?_)) ⟨rfl, rfl⟩
      conv => whnf
      refine XSplit.mk (fun e => ?_) (fun e => ?_)
      · replace h := XSplit.t h e
        conv => whnf
        refine ⟨_, Weak.a ?_, ?_, h⟩; (conv => whnf); exact ⟨rfl, rfl, rfl, rfl, rfl⟩; exact rfl
      · replace h := XSplit.f h e
        conv => whnf
        refine XDraw.d [0, 1, 2, 3, 4, 5, 6, 7, 8, 9, 10, 11, 12] [[], [], [], [], [], [], [], [], [], [], [], [], [4]] (by decide +kernel) ?_
        conv => whnf
        refine XNeed.mk (XNeed.c h) ?_; replace h := XNeed.x h
        conv => whnf
        refine XNeed.mk (XNeed.c h) ?_; replace h := XNeed.x h
        conv => whnf
        refine XNeed.mk (XNeed.c h) ?_; replace h := XNeed.x h
        conv => whnf
        refine ASeq.joinW tab_ok mixed_ (fun v5 => ⟨[(4, .ptr 0 0), (5, .int .i64 (0)), (8, .ptr 1 0)], [(0, .box 96 [.int .i64 (0), .int .i64 (0), .int .i64 (0), .int .i64 (0), .int .i64 (0), .int .i64 (0), .int .i64 (0), .int .i64 (0), .int .i64 (0), .int .i64 (0), .int .i64 (0), .int .i64 (0), .nils, .nils, .int .i64 (0), .int .i64 (0), .int .i64 (0), .int .i64 (0), .int .i64 (0), .int .i64 (0), .int .i64 (0), .int .i64 (0), .int .i64 (0), .int .i64 (0), .int .i64 (0), .int .i64 (0), .int .i64 (0), .int .i64 (0), .int .i64 (0)]), (1, .box 96 [.int .i64 (ri a6 (IntKind.i64.wrap (a8 - 1)).toNat 0), .int .i64 (ri a6 (IntKind.i64.wrap (a8 - 1)).toNat 1), .int .i64 (ri a6 (IntKind.i64.wrap (a8 - 1)).toNat 2), .int .i64 (ri a6 (IntKind.i64.wrap (a8 - 1)).toNat 3), .int .i64 (ri a6 (IntKind.i64.wrap (a8 - 1)).toNat 4), .int .i64 (ri a6 (IntKind.i64.wrap (a8 - 1)).toNat 5), .int .i64 (ri a6 (IntKind.i64.wrap (a8 - 1)).toNat 6), .int .i64 (ri a6 (IntKind.i64.wrap (a8 - 1)).toNat 7), .int .i64 (ri a6 (IntKind.i64.wrap (a8 - 1)).toNat 8), .int .i64 (ri a6 (IntKind.i64.wrap (a8 - 1)).toNat 9), .int .i64 (ri a6 (IntKind.i64.wrap (a8 - 1)).toNat 10), .int .i64 (ri a6 (IntKind.i64.wrap (a8 - 1)).toNat 11), .sl (rn a6 (IntKind.i64.wrap (a8 - 1)).toNat 12) 100 (rr a6 (IntKind.i64.wrap (a8 - 1)).toNat 12), .sl (rn a6 (IntKind.i64.wrap (a8 - 1)).toNat 13) 21 (rr a6 (IntKind.i64.wrap (a8 - 1)).toNat 13), .int .i64 (ri a6 (IntKind.i64.wrap (a8 - 1)).toNat 14), .int .i64 (ri a6 (IntKind.i64.wrap (a8 - 1)).toNat 15), .int .i64 (ri a6 (IntKind.i64.wrap (a8 - 1)).toNat 16), .int .i64 (ri a6 (IntKind.i64.wrap (a8 - 1)).toNat 17), .int .i64 (ri a6 (IntKind.i64.wrap (a8 - 1)).toNat 18), .int .i64 (ri a6 (IntKind.i64.wrap (a8 - 1)).toNat 19), .int .i64 (ri a6 (IntKind.i64.wrap (a8 - 1)).toNat 20), .int .i64 (ri a6 (IntKind.i64.wrap (a8 - 1)).toNat 21), .int .i64 (ri v3.snd.snd.snd.snd (ri a6 (IntKind.i64.wrap (a8 - 1)).toNat 1).toNat 0), .int .i64 (ri v3.snd.snd.snd.snd (ri a6 (IntKind.i64.wrap (a8 - 1)).toNat 1).toNat 1), .int .i64 (ri v3.snd.snd.snd.snd (ri a6 (IntKind.i64.wrap (a8 - 1)).toNat 1).toNat 2), .int .i64 (ri v3.snd.snd.snd.snd a8.toNat 0), .int .i64 (ri v3.snd.snd.snd.snd a8.toNat 1), .int .i64 (ri v3.snd.snd.snd.snd a8.toNat 2), .int .i64 (v5)])], 2, [], []⟩) h (fun Q h => ?_) (fun v5 h => ?_)
        · conv => whnf
          refine XSplit.mk (fun e => ?_) (fun e => ?_)
          · replace h := XSplit.t h e
            conv => whnf
            refine ⟨_, Weak.a ?_, h⟩; (conv => whnf); exact ⟨rfl, rfl, rfl, rfl, rfl⟩
          · replace h := XSplit.f h e
            conv => whnf
            refine XSplit.mk (fun e => ?_) (fun e => ?_)
            · replace h := XSplit.t h e
              conv => whnf
              refine ⟨_, Weak.a ?_, h⟩; (conv => whnf); exact ⟨rfl, rfl, rfl, rfl, rfl⟩
            · replace h := XSplit.f h e
              conv => whnf
              refine ⟨_, Weak.a ?_, h⟩; (conv => whnf); exact ⟨rfl, rfl, rfl, rfl, rfl⟩
        · conv => whnf
          refine ⟨_, Weak.a ?_, ?_, h⟩; (conv => whnf); exact ⟨rfl, rfl, rfl, rfl, rfl⟩; exact rfl

theorem c_terms_Length {a0 : Int} {a1 : Int} {a2 : Int} {a3 : Int} {a4 : Int} {a5 : Bool} {a6 : Rws} {a7 : Int} {a8 : Int} {Q : Int × Int → Prop} {R : AV → List AB → Prop} (h : (g_terms_Length a0 a1 a2 a3 a4 a5 a6 a7 a8).run Q) (k : ∀ r, Q r → R (.tup [.int .i64 (r.fst), .int .i64 (r.snd)]) ([])) : ACalls Try.prog tab 20 [.agg [.int .i64 (a0), .int .i64 (a1), .int .i64 (a2), .int .i64 (a3), .int .i64 (a4), .sl (a5) 70 (a6), .int .i64 (a7)], .int .i64 (a8)] [] R := by
  refine ACalls.out (fun r => .tup [.int .i64 (r.fst), .int .i64 (r.snd)]) (fun r => []) (Q := Q) (ACalls.introX (mv := mv) tab_ok mixed_ (fn := Try.f20) (by kernel_rfl) rfl (by kernel_rfl) (by kernel_rfl) (Nat.le_of_ble_eq_true rfl) ?_) (fun v => by first | exact ⟨rfl, Nat.le_of_ble_eq_true rfl⟩ | (cases v <;> exact ⟨rfl, Nat.le_of_ble_eq_true rfl⟩)) k
  conv => whnf
  refine ACalls.inn (c_terms_find (W.bindE h) (fun v1 h => ?_)) ⟨rfl, rfl⟩
  conv => whnf
  refine ⟨_, Weak.a ?_, ?_, h⟩; (conv => whnf); exact ⟨rfl, rfl, rfl, rfl, rfl⟩; exact rfl

theorem c_terms_Positions {a0 : Int} {a1 : Int} {a2 : Int} {a3 : Int} {a4 : Int} {a5 : Bool} {a6 : Rws} {a7 : Int} {a8 : Int} {Q : Int × Int → Prop} {R : AV → List AB → Prop} (h : (g_terms_Positions a0 a1 a2 a3 a4 a5 a6 a7 a8).run Q) (k : ∀ r, Q r → R (.tup [.int .i64 (r.fst), .int .i64 (r.snd)]) ([])) : ACalls Try.prog tab 21 [.agg [.int .i64 (a0), .int .i64 (a1), .int .i64 (a2), .int .i64 (a3), .int .i64 (a4), .sl (a5) 70 (a6), .int .i64 (a7)], .int .i64 (a8)] [] R := by
  refine ACalls.out (fun r => .tup [.int .i64 (r.fst), .int .i64 (r.snd)]) (fun r => []) (Q := Q) (ACalls.introX (mv := mv) tab_ok mixed_ (fn := Try.f21) (by kernel_rfl) rfl (by kernel_rfl) (by kernel_rfl) (Nat.le_of_ble_eq_true rfl) ?_) (fun v => by first | exact ⟨rfl, Nat.le_of_ble_eq_true rfl⟩ | (cases v <;> exact ⟨rfl, Nat.le_of_ble_eq_true rfl⟩)) k
  conv => whnf
  refine ACalls.inn (c_terms_find (W.bindE h) (fun v1 h => ?_)) ⟨rfl, rfl⟩
  conv => whnf
  refine ⟨_, Weak.a ?_, ?_, h⟩; (conv => whnf); exact ⟨rfl, rfl, rfl, rfl, rfl⟩; exact rfl

theorem c_cert_Blocks {a0 : Int} {a1 : Int} {Q : Int × Int → Prop} {R : AV → List AB → Prop} (h : (g_cert_Blocks a0 a1).run Q) (k : ∀ r, Q r → R (.tup [.int .i64 (r.fst), .int .i64 (r.snd)]) ([])) : ACalls Try.prog tab 17 [.int .i64 (a0), .int .i64 (a1)] [] R := by
  refine ACalls.out (fun r => .tup [.int .i64 (r.fst), .int .i64 (r.snd)]) (fun r => []) (Q := Q) (ACalls.introX (mv := mv) tab_ok mixed_ (fn := Try.f17) (by kernel_rfl) rfl (by kernel_rfl) (by kernel_rfl) (Nat.le_of_ble_eq_true rfl) ?_) (fun v => by first | exact ⟨rfl, Nat.le_of_ble_eq_true rfl⟩ | (cases v <;> exact ⟨rfl, Nat.le_of_ble_eq_true rfl⟩)) k
  conv => whnf
  refine ASeq.go tab_ok mixed_ ?_
  conv => whnf
  refine XSplit.mk (fun e => ?_) (fun e => ?_)
  · replace h := XSplit.t h e
    conv => whnf
    refine ⟨_, Weak.a ?_, ?_, h⟩; (conv => whnf); exact ⟨rfl, rfl, rfl, rfl, rfl⟩; exact rfl
  · replace h := XSplit.f h e
    conv => whnf
    refine XNeed.mk (XNeed.c h) ?_; replace h := XNeed.x h
    conv => whnf
    refine ⟨_, Weak.a ?_, ?_, h⟩; (conv => whnf); exact ⟨rfl, rfl, rfl, rfl, rfl⟩; exact rfl

theorem c_cert_one {a0 : Int} {a1 : Int} {a2 : Int} {a3 : Int} {a4 : Int} {a5 : Int} {a6 : Int} {Q : Int × Int × Int × Int × Int × Int × Int × Int × Int × Int → Prop} {R : AV → List AB → Prop} (h : (g_cert_one a0 a1 a2 a3 a4 a5 a6).run Q) (k : ∀ r, Q r → R (.tup [.agg [.int .i64 (r.fst), .int .i64 (r.snd.fst), .int .i64 (r.snd.snd.fst), .int .i64 (r.snd.snd.snd.fst), .int .i64 (r.snd.snd.snd.snd.fst), .int .i64 (r.snd.snd.snd.snd.snd.fst), .int .i64 (r.snd.snd.snd.snd.snd.snd.fst), .int .i64 (r.snd.snd.snd.snd.snd.snd.snd.fst), .int .i64 (r.snd.snd.snd.snd.snd.snd.snd.snd.fst)], .int .i64 (r.snd.snd.snd.snd.snd.snd.snd.snd.snd)]) ([])) : ACalls Try.prog tab 22 [.agg [.int .i64 (a0), .int .i64 (a1), .int .i64 (a2), .int .i64 (a3), .int .i64 (a4), .int .i64 (a5)], .int .i64 (a6)] [] R := by
  refine ACalls.out (fun r => .tup [.agg [.int .i64 (r.fst), .int .i64 (r.snd.fst), .int .i64 (r.snd.snd.fst), .int .i64 (r.snd.snd.snd.fst), .int .i64 (r.snd.snd.snd.snd.fst), .int .i64 (r.snd.snd.snd.snd.snd.fst), .int .i64 (r.snd.snd.snd.snd.snd.snd.fst), .int .i64 (r.snd.snd.snd.snd.snd.snd.snd.fst), .int .i64 (r.snd.snd.snd.snd.snd.snd.snd.snd.fst)], .int .i64 (r.snd.snd.snd.snd.snd.snd.snd.snd.snd)]) (fun r => []) (Q := Q) (ACalls.introX (mv := mv) tab_ok mixed_ (fn := Try.f22) (by kernel_rfl) rfl (by kernel_rfl) (by kernel_rfl) (Nat.le_of_ble_eq_true rfl) ?_) (fun v => by first | exact ⟨rfl, Nat.le_of_ble_eq_true rfl⟩ | (cases v <;> exact ⟨rfl, Nat.le_of_ble_eq_true rfl⟩)) k
  conv => whnf
  refine ACalls.inn (c_cert_Blocks (W.bindE h) (fun v1 h => ?_)) ⟨rfl, rfl⟩
  conv => whnf
  refine ASeq.go tab_ok mixed_ ?_
  conv => whnf
  refine XSplit.mk (fun e => ?_) (fun e => ?_)
  · replace h := XSplit.t h e
    conv => whnf
    refine ⟨_, Weak.a ?_, ?_, h⟩; (conv => whnf); exact ⟨rfl, rfl, rfl, rfl, rfl⟩; exact rfl
  · replace h := XSplit.f h e
    conv => whnf
    refine XSplit.mk (fun e => ?_) (fun e => ?_)
    · replace h := XSplit.t h e
      conv => whnf
      refine ⟨_, Weak.a ?_, ?_, h⟩; (conv => whnf); exact ⟨rfl, rfl, rfl, rfl, rfl⟩; exact rfl
    · replace h := XSplit.f h e
      conv => whnf
      refine XSplit.mk (fun e => ?_) (fun e => ?_)
      · replace h := XSplit.t h e
        conv => whnf
        refine ⟨_, Weak.a ?_, ?_, h⟩; (conv => whnf); exact ⟨rfl, rfl, rfl, rfl, rfl⟩; exact rfl
      · replace h := XSplit.f h e
        conv => whnf
        refine ⟨_, Weak.a ?_, ?_, h⟩; (conv => whnf); exact ⟨rfl, rfl, rfl, rfl, rfl⟩; exact rfl

theorem c_cert_Cost {a0 : Int} {a1 : Int} {a2 : Int} {a3 : Int} {a4 : Int} {a5 : Bool} {a6 : Rws} {a7 : Int} {a8 : Bool} {a9 : Rws} {a10 : Bool} {a11 : Rws} {Q : Int × Int × Int × Int × Int × Int × Int × Int × Int × Int × Int × Int → Prop} {R : AV → List AB → Prop} (h : (g_cert_Cost a0 a1 a2 a3 a4 a5 a6 a7 a8 a9 a10 a11).run Q) (k : ∀ r, Q r → R (.tup [.agg [.int .i64 (r.fst), .int .i64 (r.snd.fst), .int .i64 (r.snd.snd.fst), .int .i64 (r.snd.snd.snd.fst), .int .i64 (r.snd.snd.snd.snd.fst), .int .i64 (r.snd.snd.snd.snd.snd.fst), .int .i64 (r.snd.snd.snd.snd.snd.snd.fst), .int .i64 (r.snd.snd.snd.snd.snd.snd.snd.fst), .int .i64 (r.snd.snd.snd.snd.snd.snd.snd.snd.fst)], .agg [.int .i64 (r.snd.snd.snd.snd.snd.snd.snd.snd.snd.fst), .int .i64 (r.snd.snd.snd.snd.snd.snd.snd.snd.snd.snd.fst), .int .i64 (r.snd.snd.snd.snd.snd.snd.snd.snd.snd.snd.snd)]]) ([])) : ACalls Try.prog tab 9 [.agg [.int .i64 (a0), .int .i64 (a1), .int .i64 (a2), .int .i64 (a3), .int .i64 (a4), .sl (a5) 70 (a6), .int .i64 (a7)], .agg [.sl (a8) 59 (a9), .sl (a10) 56 (a11)]] [] R := by
  refine ACalls.out (fun r => .tup [.agg [.int .i64 (r.fst), .int .i64 (r.snd.fst), .int .i64 (r.snd.snd.fst), .int .i64 (r.snd.snd.snd.fst), .int .i64 (r.snd.snd.snd.snd.fst), .int .i64 (r.snd.snd.snd.snd.snd.fst), .int .i64 (r.snd.snd.snd.snd.snd.snd.fst), .int .i64 (r.snd.snd.snd.snd.snd.snd.snd.fst), .int .i64 (r.snd.snd.snd.snd.snd.snd.snd.snd.fst)], .agg [.int .i64 (r.snd.snd.snd.snd.snd.snd.snd.snd.snd.fst), .int .i64 (r.snd.snd.snd.snd.snd.snd.snd.snd.snd.snd.fst), .int .i64 (r.snd.snd.snd.snd.snd.snd.snd.snd.snd.snd.snd)]]) (fun r => []) (Q := Q) (ACalls.introX (mv := mv) tab_ok mixed_ (fn := Try.f9) (by kernel_rfl) rfl (by kernel_rfl) (by kernel_rfl) (Nat.le_of_ble_eq_true rfl) ?_) (fun v => by first | exact ⟨rfl, Nat.le_of_ble_eq_true rfl⟩ | (cases v <;> exact ⟨rfl, Nat.le_of_ble_eq_true rfl⟩)) k
  conv => whnf
  refine ASeq.go tab_ok mixed_ ?_
  conv => whnf
  refine ACalls.inn (c_cert_Form (W.bindE h) (fun v10 h => ?_)) ⟨rfl, rfl⟩
  conv => whnf
  refine XSplit.mk (fun e => ?_) (fun e => ?_)
  · replace h := XSplit.t h e
    conv => whnf
    refine XDraw.d [0, 1, 2, 3] [[], [], [2], [3]] (by decide +kernel) ?_
    conv => whnf
    refine ⟨_, Weak.a ?_, ?_, h⟩; (conv => whnf); exact ⟨rfl, rfl, rfl, rfl, rfl⟩; exact rfl
  · replace h := XSplit.f h e
    conv => whnf
    refine ASeq.go tab_ok mixed_ ?_
    conv => whnf
    refine ALoop.ofW tab_ok mixed_ (fun v11 => ⟨[(2, .ptr 0 0), (4, .ptr 1 0), (5, .ptr 2 0), (7, .ptr 3 0), (27, .sl (a10) 56 (a11)), (28, .int .i64 ((↑(List.length a11) : Int))), (29, .int .i64 (v11.fst))], [(0, .box 26 [.int .i64 (a0), .int .i64 (a1), .int .i64 (a2), .int .i64 (a3), .int .i64 (a4), .sl (a5) 70 (a6), .int .i64 (a7)]), (1, .box 36 [.int .i64 (0), .int .i64 (0), .int .i64 (0), .int .i64 (0), .int .i64 (0), .int .i64 (0), .int .i64 (0), .int .i64 (0), .int .i64 (0)]), (2, .box 39 [.int .i64 (0), .int .i64 (0), .int .i64 (0)]), (3, .box 36 [.int .i64 (v11.snd.fst), .int .i64 (v11.snd.snd.fst), .int .i64 (v11.snd.snd.snd.fst), .int .i64 (v11.snd.snd.snd.snd), .int .i64 (0), .int .i64 (0), .int .i64 (0), .int .i64 (0), .int .i64 (0)])], 4, [], []⟩) (sx (fun v12 => (.ret, ⟨[(4, .ptr 0 0), (5, .ptr 1 0)], [(0, .box 36 [.int .i64 (0), .int .i64 (0), .int .i64 (0), .int .i64 (0), .int .i64 (0), .int .i64 (0), .int .i64 (0), .int .i64 (0), .int .i64 (0)]), (1, .box 39 [.int .i64 (v12.fst), .int .i64 (v12.snd.fst), .int .i64 (v12.snd.snd)])], 2, [], []⟩)) (fun v13 => (.exit 0, ⟨[(4, .ptr 0 0), (5, .ptr 1 0), (7, .ptr 2 0)], [(0, .box 36 [.int .i64 (0), .int .i64 (0), .int .i64 (0), .int .i64 (0), .int .i64 (0), .int .i64 (0), .int .i64 (0), .int .i64 (0), .int .i64 (0)]), (1, .box 39 [.int .i64 (0), .int .i64 (0), .int .i64 (0)]), (2, .box 36 [.int .i64 (v13.fst), .int .i64 (v13.snd.fst), .int .i64 (v13.snd.snd.fst), .int .i64 (v13.snd.snd.snd), .int .i64 (0), .int .i64 (0), .int .i64 (0), .int .i64 (0), .int .i64 (0)])], 3, [], []⟩))) (W.bindE h) (Weak.a ?_) (fun v11 J_ Q h => ?_) (fun v h => ?_)
    · conv => whnf
      exact ⟨rfl, rfl, rfl, rfl, rfl⟩
    · conv => whnf
      refine ASeq.go tab_ok mixed_ ?_
      conv => whnf
      refine XSplit.mk (fun e => ?_) (fun e => ?_)
      · replace h := XSplit.t h e
        conv => whnf
        refine ASeq.go tab_ok mixed_ ?_
        conv => whnf
        refine XNeed.mk (XNeed.c h) ?_; replace h := XNeed.x h
        conv => whnf
        refine ACalls.inn (c_terms_Length (W.bindE h) (fun v14 h => ?_)) ⟨rfl, rfl⟩
        conv => whnf
        refine ACalls.inn (c_terms_Positions (W.bindE h) (fun v15 h => ?_)) ⟨rfl, rfl⟩
        conv => whnf
        refine ALoop.ofW tab_ok mixed_ (fun v16 => ⟨[(2, .ptr 0 0), (4, .ptr 1 0), (5, .ptr 2 0), (7, .ptr 3 0), (8, .int .i64 (v11.fst)), (9, .sl (rn a11 v11.fst.toNat 0) 61 (rr a11 v11.fst.toNat 0)), (10, .int .i64 (v14.fst)), (12, .int .i64 (v15.fst)), (27, .sl (a10) 56 (a11)), (28, .int .i64 ((↑(List.length a11) : Int))), (29, .int .i64 (v11.fst)), (30, .bool (decide (v11.fst < (↑(List.length a11) : Int)))), (31, .int .i64 (v11.fst)), (32, .rel 56 (a11) (v11.fst.toNat) 0), (33, .sl (rn a11 v11.fst.toNat 0) 61 (rr a11 v11.fst.toNat 0)), (34, .tup [.int .i64 (v14.fst), .int .i64 (v14.snd)]), (35, .agg [.int .i64 (a0), .int .i64 (a1), .int .i64 (a2), .int .i64 (a3), .int .i64 (a4), .sl (a5) 70 (a6), .int .i64 (a7)]), (36, .int .i64 (v11.fst)), (37, .int .i64 (IntKind.i64.wrap (v11.fst + 1))), (38, .tup [.int .i64 (v14.fst), .int .i64 (v14.snd)]), (39, .int .i64 (v14.fst)), (40, .int .i64 (v14.snd)), (41, .tup [.int .i64 (v15.fst), .int .i64 (v15.snd)]), (42, .agg [.int .i64 (a0), .int .i64 (a1), .int .i64 (a2), .int .i64 (a3), .int .i64 (a4), .sl (a5) 70 (a6), .int .i64 (a7)]), (43, .int .i64 (v11.fst)), (44, .int .i64 (IntKind.i64.wrap (v11.fst + 1))), (45, .tup [.int .i64 (v15.fst), .int .i64 (v15.snd)]), (46, .int .i64 (v15.fst)), (47, .int .i64 (v15.snd)), (48, .sl (rn a11 v11.fst.toNat 0) 61 (rr a11 v11.fst.toNat 0)), (49, .int .i64 ((↑(List.length (rr a11 v11.fst.toNat 0)) : Int))), (50, .int .i64 (v16.fst))], [(0, .box 26 [.int .i64 (a0), .int .i64 (a1), .int .i64 (a2), .int .i64 (a3), .int .i64 (a4), .sl (a5) 70 (a6), .int .i64 (a7)]), (1, .box 36 [.int .i64 (0), .int .i64 (0), .int .i64 (0), .int .i64 (0), .int .i64 (0), .int .i64 (0), .int .i64 (0), .int .i64 (0), .int .i64 (0)]), (2, .box 39 [.int .i64 (0), .int .i64 (0), .int .i64 (0)]), (3, .box 36 [.int .i64 (v16.snd.fst), .int .i64 (v16.snd.snd.fst), .int .i64 (v16.snd.snd.snd.fst), .int .i64 (v16.snd.snd.snd.snd), .int .i64 (0), .int .i64 (0), .int .i64 (0), .int .i64 (0), .int .i64 (0)])], 4, [], []⟩) (sx (fun v17 => (.ret, ⟨[(4, .ptr 0 0), (5, .ptr 1 0)], [(0, .box 36 [.int .i64 (0), .int .i64 (0), .int .i64 (0), .int .i64 (0), .int .i64 (0), .int .i64 (0), .int .i64 (0), .int .i64 (0), .int .i64 (0)]), (1, .box 39 [.int .i64 (v17.fst), .int .i64 (IntKind.i64.wrap (v11.fst + 1)), .int .i64 (v17.snd)])], 2, [], []⟩)) (fun v18 => (.exit 2, ⟨[(2, .ptr 0 0), (4, .ptr 1 0), (5, .ptr 2 0), (7, .ptr 3 0), (8, .int .i64 (v11.fst)), (9, .sl (rn a11 v11.fst.toNat 0) 61 (rr a11 v11.fst.toNat 0)), (10, .int .i64 (v14.fst)), (12, .int .i64 (v15.fst)), (27, .sl (a10) 56 (a11)), (28, .int .i64 ((↑(List.length a11) : Int))), (29, .int .i64 (v11.fst)), (30, .bool (decide (v11.fst < (↑(List.length a11) : Int)))), (31, .int .i64 (v11.fst)), (32, .rel 56 (a11) (v11.fst.toNat) 0), (33, .sl (rn a11 v11.fst.toNat 0) 61 (rr a11 v11.fst.toNat 0)), (34, .tup [.int .i64 (v14.fst), .int .i64 (v14.snd)]), (35, .agg [.int .i64 (a0), .int .i64 (a1), .int .i64 (a2), .int .i64 (a3), .int .i64 (a4), .sl (a5) 70 (a6), .int .i64 (a7)]), (36, .int .i64 (v11.fst)), (37, .int .i64 (IntKind.i64.wrap (v11.fst + 1))), (38, .tup [.int .i64 (v14.fst), .int .i64 (v14.snd)]), (39, .int .i64 (v14.fst)), (40, .int .i64 (v14.snd)), (41, .tup [.int .i64 (v15.fst), .int .i64 (v15.snd)]), (42, .agg [.int .i64 (a0), .int .i64 (a1), .int .i64 (a2), .int .i64 (a3), .int .i64 (a4), .sl (a5) 70 (a6), .int .i64 (a7)]), (43, .int .i64 (v11.fst)), (44, .int .i64 (IntKind.i64.wrap (v11.fst + 1))), (45, .tup [.int .i64 (v15.fst), .int .i64 (v15.snd)]), (46, .int .i64 (v15.fst)), (47, .int .i64 (v15.snd)), (48, .sl (rn a11 v11.fst.toNat 0) 61 (rr a11 v11.fst.toNat 0)), (49, .int .i64 ((↑(List.length (rr a11 v11.fst.toNat 0)) : Int))), (50, .int .i64 (v18.fst)), (51, .bool (v18.snd.fst))], [(0, .box 26 [.int .i64 (a0), .int .i64 (a1), .int .i64 (a2), .int .i64 (a3), .int .i64 (a4), .sl (a5) 70 (a6), .int .i64 (a7)]), (1, .box 36 [.int .i64 (0), .int .i64 (0), .int .i64 (0), .int .i64 (0), .int .i64 (0), .int .i64 (0), .int .i64 (0), .int .i64 (0), .int .i64 (0)]), (2, .box 39 [.int .i64 (0), .int .i64 (0), .int .i64 (0)]), (3, .box 36 [.int .i64 (v18.snd.snd.fst), .int .i64 (v18.snd.snd.snd.fst), .int .i64 (v18.snd.snd.snd.snd.fst), .int .i64 (v18.snd.snd.snd.snd.snd), .int .i64 (0), .int .i64 (0), .int .i64 (0), .int .i64 (0), .int .i64 (0)])], 4, [], []⟩))) (W.bindE h) (Weak.a ?_) (fun v16 J_ Q h => ?_) (fun v h => ?_)
        · conv => whnf
          exact ⟨rfl, rfl, rfl, rfl, rfl⟩
        · conv => whnf
          refine ASeq.go tab_ok mixed_ ?_
          conv => whnf
          refine XSplit.mk (fun e => ?_) (fun e => ?_)
          · replace h := XSplit.t h e
            conv => whnf
            refine ASeq.go tab_ok mixed_ ?_
            conv => whnf
            refine XNeed.mk (XNeed.c h) ?_; replace h := XNeed.x h
            conv => whnf
            refine ACalls.inn (c_cert_one (W.bindE h) (fun v19 h => ?_)) ⟨rfl, rfl⟩
            conv => whnf
            refine ASeq.go tab_ok mixed_ ?_
            conv => whnf
            refine XSplit.mk (fun e => ?_) (fun e => ?_)
            · replace h := XSplit.t h e
              conv => whnf
              refine ⟨_, ?_, Weak.a ?_, h⟩; exact rfl; (conv => whnf); exact ⟨rfl, rfl, rfl, rfl, rfl⟩
            · replace h := XSplit.f h e
              conv => whnf
              refine ⟨_, Weak.a ?_, h⟩; (conv => whnf); exact ⟨rfl, rfl, rfl, rfl, rfl⟩
          · replace h := XSplit.f h e
            conv => whnf
            refine ⟨_, ?_, Weak.a ?_, h⟩; exact rfl; (conv => whnf); exact ⟨rfl, rfl, rfl, rfl, rfl⟩
        · rcases v with v17 | v18
          · conv => whnf
            refine ⟨_, ?_, Weak.a ?_, h⟩; exact rfl; (conv => whnf); exact ⟨rfl, rfl, rfl, rfl, rfl⟩
          · conv => whnf
            refine ⟨_, Weak.a ?_, h⟩; (conv => whnf); exact ⟨rfl, rfl, rfl, rfl, rfl⟩
      · replace h := XSplit.f h e
        conv => whnf
        refine ⟨_, ?_, Weak.a ?_, h⟩; exact rfl; (conv => whnf); exact ⟨rfl, rfl, rfl, rfl, rfl⟩
    · rcases v with v12 | v13
      · conv => whnf
        refine ⟨_, Weak.a ?_, ?_, h⟩; (conv => whnf); exact ⟨rfl, rfl, rfl, rfl, rfl⟩; exact rfl
      · conv => whnf
        refine ⟨_, Weak.a ?_, ?_, h⟩; (conv => whnf); exact ⟨rfl, rfl, rfl, rfl, rfl⟩; exact rfl
end Go.Proofs.Yticonbckgffjbaa.V15

set_option linter.unusedVariables false
set_option maxRecDepth 100000
set_option maxHeartbeats 0
namespace Go.Proofs.Yticonbckgffjbaa.V15
open Go.Proofs Go.Proofs.Yticonbckgffjbaa.VX
theorem c_slices_Equal___api_Span_api_Span_ {a0 : Bool} {a1 : Rws} {a2 : Bool} {a3 : Rws} {Q : Bool → Prop} {R : AV → List AB → Prop} (h : (g_slices_Equal___api_Span_api_Span_ a0 a1 a2 a3).run Q) (k : ∀ r, Q r → R (.bool (r)) ([])) : ACalls Try.prog tab 39 [.sl (a0) 59 (a1), .sl (a2) 59 (a3)] [] R := by
  refine ACalls.out (fun r => .bool (r)) (fun r => []) (Q := Q) (ACalls.introX (mv := mv) tab_ok mixed_ (fn := Try.f39) (by kernel_rfl) rfl (by kernel_rfl) (by kernel_rfl) (Nat.le_of_ble_eq_true rfl) ?_) (fun v => by first | exact ⟨rfl, Nat.le_of_ble_eq_true rfl⟩ | (cases v <;> exact ⟨rfl, Nat.le_of_ble_eq_true rfl⟩)) k
  conv => whnf
  refine ASeq.go tab_ok mixed_ ?_
  conv => whnf
  refine XSplit.mk (fun e => ?_) (fun e => ?_)
  · replace h := XSplit.t h e
    conv => whnf
    refine ⟨_, Weak.a ?_, ?_, h⟩; (conv => whnf); exact ⟨rfl, rfl, rfl, rfl, rfl⟩; exact rfl
  · replace h := XSplit.f h e
    conv => whnf
    refine ASeq.go tab_ok mixed_ ?_
    conv => whnf
    refine ALoop.ofW tab_ok mixed_ (fun v3 => ⟨[(0, .sl (a0) 59 (a1)), (1, .sl (a2) 59 (a3)), (4, .kb false), (12, .int .i64 ((↑(List.length a1) : Int))), (13, .int .i64 (v3))], [], 0, [], []⟩) (sx (fun v4 => (.ret, ⟨[(4, .kb false)], [], 0, [], []⟩)) (fun v5 => (.exit 0, ⟨[(4, .kb false)], [], 0, [], []⟩))) (W.bindE h) (Weak.a ?_) (fun v3 J_ Q h => ?_) (fun v h => ?_)
    · conv => whnf
      exact ⟨rfl, rfl, rfl, rfl, rfl⟩
    · conv => whnf
      refine ASeq.go tab_ok mixed_ ?_
      conv => whnf
      refine XSplit.mk (fun e => ?_) (fun e => ?_)
      · replace h := XSplit.t h e
        conv => whnf
        refine ASeq.go tab_ok mixed_ ?_
        conv => whnf
        refine XDraw.q [0, 1, 2, 3, 4, 5, 6, 7, 8] (by decide +kernel) ?_
        conv => whnf
        refine XNeed.mk (XNeed.c h) ?_; replace h := XNeed.x h
        conv => whnf
        refine XNeed.mk (XNeed.c h) ?_; replace h := XNeed.x h
        conv => whnf
        refine XSplit.mk (fun e => ?_) (fun e => ?_)
        · replace h := XSplit.t h e
          conv => whnf
          refine ⟨_, ?_, Weak.a ?_, h⟩; exact rfl; (conv => whnf); exact ⟨rfl, rfl, rfl, rfl, rfl⟩
        · replace h := XSplit.f h e
          conv => whnf
          refine ⟨_, Weak.a ?_, h⟩; (conv => whnf); exact ⟨rfl, rfl, rfl, rfl, rfl⟩
      · replace h := XSplit.f h e
        conv => whnf
        refine ⟨_, ?_, Weak.a ?_, h⟩; exact rfl; (conv => whnf); exact ⟨rfl, rfl, rfl, rfl, rfl⟩
    · rcases v with v4 | v5
      · conv => whnf
        refine ⟨_, Weak.a ?_, ?_, h⟩; (conv => whnf); exact ⟨rfl, rfl, rfl, rfl, rfl⟩; exact rfl
      · conv => whnf
        refine ⟨_, Weak.a ?_, ?_, h⟩; (conv => whnf); exact ⟨rfl, rfl, rfl, rfl, rfl⟩; exact rfl

theorem c_slices_Equal___api_Chan_api_Chan_ {a0 : Bool} {a1 : Rws} {a2 : Bool} {a3 : Rws} {Q : Bool → Prop} {R : AV → List AB → Prop} (h : (g_slices_Equal___api_Chan_api_Chan_ a0 a1 a2 a3).run Q) (k : ∀ r, Q r → R (.bool (r)) ([])) : ACalls Try.prog tab 41 [.sl (a0) 61 (a1), .sl (a2) 61 (a3)] [] R := by
  refine ACalls.out (fun r => .bool (r)) (fun r => []) (Q := Q) (ACalls.introX (mv := mv) tab_ok mixed_ (fn := Try.f41) (by kernel_rfl) rfl (by kernel_rfl) (by kernel_rfl) (Nat.le_of_ble_eq_true rfl) ?_) (fun v => by first | exact ⟨rfl, Nat.le_of_ble_eq_true rfl⟩ | (cases v <;> exact ⟨rfl, Nat.le_of_ble_eq_true rfl⟩)) k
  conv => whnf
  refine ASeq.go tab_ok mixed_ ?_
  conv => whnf
  refine XSplit.mk (fun e => ?_) (fun e => ?_)
  · replace h := XSplit.t h e
    conv => whnf
    refine ⟨_, Weak.a ?_, ?_, h⟩; (conv => whnf); exact ⟨rfl, rfl, rfl, rfl, rfl⟩; exact rfl
  · replace h := XSplit.f h e
    conv => whnf
    refine ASeq.go tab_ok mixed_ ?_
    conv => whnf
    refine ALoop.ofW tab_ok mixed_ (fun v3 => ⟨[(0, .sl (a0) 61 (a1)), (1, .sl (a2) 61 (a3)), (4, .kb false), (12, .int .i64 ((↑(List.length a1) : Int))), (13, .int .i64 (v3))], [], 0, [], []⟩) (sx (fun v4 => (.ret, ⟨[(4, .kb false)], [], 0, [], []⟩)) (fun v5 => (.exit 0, ⟨[(4, .kb false)], [], 0, [], []⟩))) (W.bindE h) (Weak.a ?_) (fun v3 J_ Q h => ?_) (fun v h => ?_)
    · conv => whnf
      exact ⟨rfl, rfl, rfl, rfl, rfl⟩
    · conv => whnf
      refine ASeq.go tab_ok mixed_ ?_
      conv => whnf
      refine XSplit.mk (fun e => ?_) (fun e => ?_)
      · replace h := XSplit.t h e
        conv => whnf
        refine ASeq.go tab_ok mixed_ ?_
        conv => whnf
        refine XDraw.q [0, 1, 2, 3, 4, 5, 6, 7, 8] (by decide +kernel) ?_
        conv => whnf
        refine XNeed.mk (XNeed.c h) ?_; replace h := XNeed.x h
        conv => whnf
        refine XNeed.mk (XNeed.c h) ?_; replace h := XNeed.x h
        conv => whnf
        refine XSplit.mk (fun e => ?_) (fun e => ?_)
        · replace h := XSplit.t h e
          conv => whnf
          refine ⟨_, ?_, Weak.a ?_, h⟩; exact rfl; (conv => whnf); exact ⟨rfl, rfl, rfl, rfl, rfl⟩
        · replace h := XSplit.f h e
          conv => whnf
          refine ⟨_, Weak.a ?_, h⟩; (conv => whnf); exact ⟨rfl, rfl, rfl, rfl, rfl⟩
      · replace h := XSplit.f h e
        conv => whnf
        refine ⟨_, ?_, Weak.a ?_, h⟩; exact rfl; (conv => whnf); exact ⟨rfl, rfl, rfl, rfl, rfl⟩
    · rcases v with v4 | v5
      · conv => whnf
        refine ⟨_, Weak.a ?_, ?_, h⟩; (conv => whnf); exact ⟨rfl, rfl, rfl, rfl, rfl⟩; exact rfl
      · conv => whnf
        refine ⟨_, Weak.a ?_, ?_, h⟩; (conv => whnf); exact ⟨rfl, rfl, rfl, rfl, rfl⟩; exact rfl

theorem c_slices_EqualFunc_____api_Chan_____api_Chan___api_Chan___api_Chan___slices_Equal___api_Chan_api_Chan_ {a0 : Bool} {a1 : Rws} {a2 : Bool} {a3 : Rws} {Q : Bool → Prop} {R : AV → List AB → Prop} (h : (g_slices_EqualFunc_____api_Chan_____api_Chan___api_Chan___api_Chan___slices_Equal___api_Chan_api_Chan_ a0 a1 a2 a3).run Q) (k : ∀ r, Q r → R (.bool (r)) ([])) : ACalls Try.prog tab 40 [.sl (a0) 56 (a1), .sl (a2) 56 (a3), .fn 41 [] []] [] R := by
  refine ACalls.out (fun r => .bool (r)) (fun r => []) (Q := Q) (ACalls.introX (mv := mv) tab_ok mixed_ (fn := Try.f40) (by kernel_rfl) rfl (by kernel_rfl) (by kernel_rfl) (Nat.le_of_ble_eq_true rfl) ?_) (fun v => by first | exact ⟨rfl, Nat.le_of_ble_eq_true rfl⟩ | (cases v <;> exact ⟨rfl, Nat.le_of_ble_eq_true rfl⟩)) k
  conv => whnf
  refine ASeq.go tab_ok mixed_ ?_
  conv => whnf
  refine XSplit.mk (fun e => ?_) (fun e => ?_)
  · replace h := XSplit.t h e
    conv => whnf
    refine ⟨_, Weak.a ?_, ?_, h⟩; (conv => whnf); exact ⟨rfl, rfl, rfl, rfl, rfl⟩; exact rfl
  · replace h := XSplit.f h e
    conv => whnf
    refine ASeq.go tab_ok mixed_ ?_
    conv => whnf
    refine ALoop.ofW tab_ok mixed_ (fun v4 => ⟨[(1, .sl (a2) 56 (a3)), (2, .fn 41 [] []), (6, .kb false), (15, .sl (a0) 56 (a1)), (16, .int .i64 ((↑(List.length a1) : Int))), (17, .int .i64 (v4))], [], 0, [], []⟩) (sx (fun v5 => (.ret, ⟨[(6, .kb false)], [], 0, [], []⟩)) (fun v6 => (.exit 0, ⟨[(6, .kb false)], [], 0, [], []⟩))) (W.bindE h) (Weak.a ?_) (fun v4 J_ Q h => ?_) (fun v h => ?_)
    · conv => whnf
      exact ⟨rfl, rfl, rfl, rfl, rfl⟩
    · conv => whnf
      refine ASeq.go tab_ok mixed_ ?_
      conv => whnf
      refine XSplit.mk (fun e => ?_) (fun e => ?_)
      · replace h := XSplit.t h e
        conv => whnf
        refine ASeq.go tab_ok mixed_ ?_
        conv => whnf
        refine XNeed.mk (XNeed.c h) ?_; replace h := XNeed.x h
        conv => whnf
        refine XNeed.mk (XNeed.c h) ?_; replace h := XNeed.x h
        conv => whnf
        refine ACalls.inn (c_slices_Equal___api_Chan_api_Chan_ (W.bindE h) (fun v7 h => ?_)) ⟨rfl, rfl⟩
        conv => whnf
        refine XSplit.mk (fun e => ?_) (fun e => ?_)
        · replace h := XSplit.t h e
          conv => whnf
          refine ⟨_, ?_, Weak.a ?_, h⟩; exact rfl; (conv => whnf); exact ⟨rfl, rfl, rfl, rfl, rfl⟩
        · replace h := XSplit.f h e
          conv => whnf
          refine ⟨_, Weak.a ?_, h⟩; (conv => whnf); exact ⟨rfl, rfl, rfl, rfl, rfl⟩
      · replace h := XSplit.f h e
        conv => whnf
        refine ⟨_, ?_, Weak.a ?_, h⟩; exact rfl; (conv => whnf); exact ⟨rfl, rfl, rfl, rfl, rfl⟩
    · rcases v with v5 | v6
      · conv => whnf
        refine ⟨_, Weak.a ?_, ?_, h⟩; (conv => whnf); exact ⟨rfl, rfl, rfl, rfl, rfl⟩; exact rfl
      · conv => whnf
        refine ⟨_, Weak.a ?_, ?_, h⟩; (conv => whnf); exact ⟨rfl, rfl, rfl, rfl, rfl⟩; exact rfl

theorem c_cert_Same {a0 : Bool} {a1 : Rws} {a2 : Bool} {a3 : Rws} {a4 : Bool} {a5 : Rws} {a6 : Bool} {a7 : Rws} {Q : Bool → Prop} {R : AV → List AB → Prop} (h : (g_cert_Same a0 a1 a2 a3 a4 a5 a6 a7).run Q) (k : ∀ r, Q r → R (.bool (r)) ([])) : ACalls Try.prog tab 16 [.agg [.sl (a0) 59 (a1), .sl (a2) 56 (a3)], .agg [.sl (a4) 59 (a5), .sl (a6) 56 (a7)]] [] R := by
  refine ACalls.out (fun r => .bool (r)) (fun r => []) (Q := Q) (ACalls.introX (mv := mv) tab_ok mixed_ (fn := Try.f16) (by kernel_rfl) rfl (by kernel_rfl) (by kernel_rfl) (Nat.le_of_ble_eq_true rfl) ?_) (fun v => by first | exact ⟨rfl, Nat.le_of_ble_eq_true rfl⟩ | (cases v <;> exact ⟨rfl, Nat.le_of_ble_eq_true rfl⟩)) k
  conv => whnf
  refine ASeq.joinW tab_ok mixed_ (fun v3 => ⟨[(4, .bool (v3))], [], 0, [], []⟩) h (fun Q h => ?_) (fun v3 h => ?_)
  · conv => whnf
    refine ACalls.inn (c_slices_Equal___api_Span_api_Span_ (W.bindE h) (fun v4 h => ?_)) ⟨rfl, rfl⟩
    conv => whnf
    refine XSplit.mk (fun e => ?_) (fun e => ?_)
    · replace h := XSplit.t h e
      conv => whnf
      refine ACalls.inn (c_slices_EqualFunc_____api_Chan_____api_Chan___api_Chan___api_Chan___slices_Equal___api_Chan_api_Chan_ (W.bindE h) (fun v5 h => ?_)) ⟨rfl, rfl⟩
      conv => whnf
      refine ⟨_, Weak.a ?_, h⟩; (conv => whnf); exact ⟨rfl, rfl, rfl, rfl, rfl⟩
    · replace h := XSplit.f h e
      conv => whnf
      refine ⟨_, Weak.a ?_, h⟩; (conv => whnf); exact ⟨rfl, rfl, rfl, rfl, rfl⟩
  · conv => whnf
    refine ⟨_, Weak.a ?_, ?_, h⟩; (conv => whnf); exact ⟨rfl, rfl, rfl, rfl, rfl⟩; exact rfl

theorem c_law15_fixed {Q : Bool → Prop} {R : AV → List AB → Prop} (h : (g_law15_fixed).run Q) (k : ∀ r, Q r → R (.bool (r)) ([])) : ACalls Try.prog tab 11 [] [] R := by
  refine ACalls.out (fun r => .bool (r)) (fun r => []) (Q := Q) (ACalls.introX (mv := mv) tab_ok mixed_ (fn := Try.f11) (by kernel_rfl) rfl (by kernel_rfl) (by kernel_rfl) (Nat.le_of_ble_eq_true rfl) ?_) (fun v => by first | exact ⟨rfl, Nat.le_of_ble_eq_true rfl⟩ | (cases v <;> exact ⟨rfl, Nat.le_of_ble_eq_true rfl⟩)) k
  conv => whnf
  refine ACalls.inn (c_law15_one (W.bindE h) (fun v10 h => ?_)) ⟨rfl, rfl⟩
  conv => whnf
  refine ACalls.inn (c_cert_Cost (W.bindE h) (fun v11 h => ?_)) ⟨rfl, rfl⟩
  conv => whnf
  refine ACalls.inn (c_cert_Blocks (W.bindE h) (fun v12 h => ?_)) ⟨rfl, rfl⟩
  conv => whnf
  refine ACalls.inn (c_law15_one (W.bindE h) (fun v13 h => ?_)) ⟨rfl, rfl⟩
  conv => whnf
  refine XNeed.mk (XNeed.c h) ?_; replace h := XNeed.x h
  conv => whnf
  refine ASeq.joinW tab_ok mixed_ (fun v14 => ⟨[(0, .bool (v14))], [], 0, [], []⟩) h (fun Q h => ?_) (fun v14 h => ?_)
  · conv => whnf
    refine XDraw.d [0, 1, 2, 3, 4, 5, 6, 7, 8, 9, 10, 11, 12, 13, 14, 15, 16, 17, 18, 19, 20, 22, 21, 23, 24, 25, 26, 27, 28, 29, 31, 30, 32, 33, 34, 35, 36, 37, 38, 39, 40, 41, 42, 43, 44, 45, 46, 47, 48, 49] [[], [], [], [], [], [], [], [], [], [], [], [], [], [], [], [], [], [], [], [], [], [], [], [], [], [], [], [], [], [], [], [], [], [], [], [], [], [], [], [10], [], [], [], [], [], [], [], [], [], []] (by decide +kernel) ?_
    conv => whnf
    refine XSplit.mk (fun e => ?_) (fun e => ?_)
    · replace h := XSplit.t h e
      conv => whnf
      refine ACalls.inn (c_cert_Form (W.bindE h) (fun v15 h => ?_)) ⟨rfl, rfl⟩
      conv => whnf
      refine XSplit.mk (fun e => ?_) (fun e => ?_)
      · replace h := XSplit.t h e
        conv => whnf
        refine ACalls.inn (c_cert_Form (W.bindE h) (fun v16 h => ?_)) ⟨rfl, rfl⟩
        conv => whnf
        refine XSplit.mk (fun e => ?_) (fun e => ?_)
        · replace h := XSplit.t h e
          conv => whnf
          refine ACalls.inn (c_law15_one (W.bindE h) (fun v17 h => ?_)) ⟨rfl, rfl⟩
          conv => whnf
          refine ACalls.inn (c_cert_Same (W.bindE h) (fun v18 h => ?_)) ⟨rfl, rfl⟩
          conv => whnf
          refine XSplit.mk (fun e => ?_) (fun e => ?_)
          · replace h := XSplit.t h e
            conv => whnf
            refine ACalls.inn (c_cert_Same (W.bindE h) (fun v19 h => ?_)) ⟨rfl, rfl⟩
            conv => whnf
            refine ⟨_, Weak.a ?_, h⟩; (conv => whnf); exact ⟨rfl, rfl, rfl, rfl, rfl⟩
          · replace h := XSplit.f h e
            conv => whnf
            refine ⟨_, Weak.a ?_, h⟩; (conv => whnf); exact ⟨rfl, rfl, rfl, rfl, rfl⟩
        · replace h := XSplit.f h e
          conv => whnf
          refine ⟨_, Weak.a ?_, h⟩; (conv => whnf); exact ⟨rfl, rfl, rfl, rfl, rfl⟩
      · replace h := XSplit.f h e
        conv => whnf
        refine ⟨_, Weak.a ?_, h⟩; (conv => whnf); exact ⟨rfl, rfl, rfl, rfl, rfl⟩
    · replace h := XSplit.f h e
      conv => whnf
      refine ⟨_, Weak.a ?_, h⟩; (conv => whnf); exact ⟨rfl, rfl, rfl, rfl, rfl⟩
  · conv => whnf
    refine ⟨_, Weak.a ?_, ?_, h⟩; (conv => whnf); exact ⟨rfl, rfl, rfl, rfl, rfl⟩; exact rfl

theorem c_ref15_Same {a0 : Bool} {a1 : Rws} {a2 : Bool} {a3 : Rws} {a4 : Bool} {a5 : Rws} {a6 : Bool} {a7 : Rws} {Q : Bool → Prop} {R : AV → List AB → Prop} (h : (g_ref15_Same a0 a1 a2 a3 a4 a5 a6 a7).run Q) (k : ∀ r, Q r → R (.bool (r)) ([])) : ACalls Try.prog tab 15 [.agg [.sl (a0) 59 (a1), .sl (a2) 56 (a3)], .agg [.sl (a4) 59 (a5), .sl (a6) 56 (a7)]] [] R := by
  refine ACalls.out (fun r => .bool (r)) (fun r => []) (Q := Q) (ACalls.introX (mv := mv) tab_ok mixed_ (fn := Try.f15) (by kernel_rfl) rfl (by kernel_rfl) (by kernel_rfl) (Nat.le_of_ble_eq_true rfl) ?_) (fun v => by first | exact ⟨rfl, Nat.le_of_ble_eq_true rfl⟩ | (cases v <;> exact ⟨rfl, Nat.le_of_ble_eq_true rfl⟩)) k
  conv => whnf
  refine ASeq.go tab_ok mixed_ ?_
  conv => whnf
  refine XSplit.mk (fun e => ?_) (fun e => ?_)
  · replace h := XSplit.t h e
    conv => whnf
    refine ⟨_, Weak.a ?_, ?_, h⟩; (conv => whnf); exact ⟨rfl, rfl, rfl, rfl, rfl⟩; exact rfl
  · replace h := XSplit.f h e
    conv => whnf
    refine ASeq.go tab_ok mixed_ ?_
    conv => whnf
    refine ALoop.ofW tab_ok mixed_ (fun v9 => ⟨[(2, .ptr 0 0), (3, .ptr 1 0), (4, .kb false), (26, .int .i64 ((↑(List.length a1) : Int))), (27, .int .i64 (v9))], [(0, .box 30 [.sl (a0) 59 (a1), .sl (a2) 56 (a3)]), (1, .box 30 [.sl (a4) 59 (a5), .sl (a6) 56 (a7)])], 2, [], []⟩) (sx (fun v10 => (.ret, ⟨[(4, .kb false)], [], 0, [], []⟩)) (fun v11 => (.exit 0, ⟨[(2, .ptr 0 0), (3, .ptr 1 0), (4, .kb false)], [(0, .box 30 [.sl (a0) 59 (a1), .sl (a2) 56 (a3)]), (1, .box 30 [.sl (a4) 59 (a5), .sl (a6) 56 (a7)])], 2, [], []⟩))) (W.bindE h) (Weak.a ?_) (fun v9 J_ Q h => ?_) (fun v h => ?_)
    · conv => whnf
      exact ⟨rfl, rfl, rfl, rfl, rfl⟩
    · conv => whnf
      refine ASeq.go tab_ok mixed_ ?_
      conv => whnf
      refine XSplit.mk (fun e => ?_) (fun e => ?_)
      · replace h := XSplit.t h e
        conv => whnf
        refine ASeq.go tab_ok mixed_ ?_
        conv => whnf
        refine XDraw.q [0, 1, 2, 3, 4, 5, 6, 7, 8, 9, 10] (by decide +kernel) ?_
        conv => whnf
        refine XNeed.mk (XNeed.c h) ?_; replace h := XNeed.x h
        conv => whnf
        refine XNeed.mk (XNeed.c h) ?_; replace h := XNeed.x h
        conv => whnf
        refine XSplit.mk (fun e => ?_) (fun e => ?_)
        · replace h := XSplit.t h e
          conv => whnf
          refine ⟨_, ?_, Weak.a ?_, h⟩; exact rfl; (conv => whnf); exact ⟨rfl, rfl, rfl, rfl, rfl⟩
        · replace h := XSplit.f h e
          conv => whnf
          refine ⟨_, Weak.a ?_, h⟩; (conv => whnf); exact ⟨rfl, rfl, rfl, rfl, rfl⟩
      · replace h := XSplit.f h e
        conv => whnf
        refine ⟨_, ?_, Weak.a ?_, h⟩; exact rfl; (conv => whnf); exact ⟨rfl, rfl, rfl, rfl, rfl⟩
    · rcases v with v10 | v11
      · conv => whnf
        refine ⟨_, Weak.a ?_, ?_, h⟩; (conv => whnf); exact ⟨rfl, rfl, rfl, rfl, rfl⟩; exact rfl
      · conv => whnf
        refine ASeq.go tab_ok mixed_ ?_
        conv => whnf
        refine ALoop.ofW tab_ok mixed_ (fun v12 => ⟨[(2, .ptr 0 0), (3, .ptr 1 0), (4, .kb false), (44, .int .i64 ((↑(List.length a3) : Int))), (45, .int .i64 (v12))], [(0, .box 30 [.sl (a0) 59 (a1), .sl (a2) 56 (a3)]), (1, .box 30 [.sl (a4) 59 (a5), .sl (a6) 56 (a7)])], 2, [], []⟩) (sx (fun v13 => (.ret, ⟨[(4, .kb false)], [], 0, [], []⟩)) (fun v14 => (.exit 2, ⟨[(4, .kb false)], [], 0, [], []⟩))) (W.bindE h) (Weak.a ?_) (fun v12 J_ Q h => ?_) (fun v h => ?_)
        · conv => whnf
          exact ⟨rfl, rfl, rfl, rfl, rfl⟩
        · conv => whnf
          refine ASeq.go tab_ok mixed_ ?_
          conv => whnf
          refine XSplit.mk (fun e => ?_) (fun e => ?_)
          · replace h := XSplit.t h e
            conv => whnf
            refine ASeq.go tab_ok mixed_ ?_
            conv => whnf
            refine ASeq.go tab_ok mixed_ ?_
            conv => whnf
            refine XDraw.q [0, 1, 2, 3, 4, 5, 6, 7, 8, 9, 10, 11, 12] (by decide +kernel) ?_
            conv => whnf
            refine XNeed.mk (XNeed.c h) ?_; replace h := XNeed.x h
            conv => whnf
            refine XNeed.mk (XNeed.c h) ?_; replace h := XNeed.x h
            conv => whnf
            refine XSplit.mk (fun e => ?_) (fun e => ?_)
            · replace h := XSplit.t h e
              conv => whnf
              refine ⟨_, ?_, Weak.a ?_, h⟩; exact rfl; (conv => whnf); exact ⟨rfl, rfl, rfl, rfl, rfl⟩
            · replace h := XSplit.f h e
              conv => whnf
              refine XNeed.mk (XNeed.c h) ?_; replace h := XNeed.x h
              conv => whnf
              refine ALoop.ofW tab_ok mixed_ (fun v15 => ⟨[(2, .ptr 0 0), (3, .ptr 1 0), (4, .kb false), (6, .int .i64 (v12)), (44, .int .i64 ((↑(List.length a3) : Int))), (45, .int .i64 (v12)), (46, .bool (decide (v12 < (↑(List.length a3) : Int)))), (47, .int .i64 (v12)), (48, .ptr 0 1), (49, .sl (a2) 56 (a3)), (50, .int .i64 (v12)), (51, .rel 56 (a3) (v12.toNat) 0), (52, .sl (rn a3 v12.toNat 0) 61 (rr a3 v12.toNat 0)), (53, .int .i64 ((↑(List.length (rr a3 v12.toNat 0)) : Int))), (54, .ptr 1 1), (55, .sl (a6) 56 (a7)), (56, .int .i64 (v12)), (57, .rel 56 (a7) (v12.toNat) 0), (58, .sl (rn a7 v12.toNat 0) 61 (rr a7 v12.toNat 0)), (59, .int .i64 ((↑(List.length (rr a7 v12.toNat 0)) : Int))), (60, .bool ((↑(List.length (rr a3 v12.toNat 0)) : Int) != (↑(List.length (rr a7 v12.toNat 0)) : Int))), (61, .ptr 0 1), (62, .sl (a2) 56 (a3)), (63, .int .i64 (v12)), (64, .rel 56 (a3) (v12.toNat) 0), (65, .sl (rn a3 v12.toNat 0) 61 (rr a3 v12.toNat 0)), (66, .int .i64 ((↑(List.length (rr a3 v12.toNat 0)) : Int))), (67, .int .i64 (v15))], [(0, .box 30 [.sl (a0) 59 (a1), .sl (a2) 56 (a3)]), (1, .box 30 [.sl (a4) 59 (a5), .sl (a6) 56 (a7)])], 2, [], []⟩) (sx (fun v16 => (.ret, ⟨[(4, .kb false)], [], 0, [], []⟩)) (fun v17 => (.exit 4, ⟨[(2, .ptr 0 0), (3, .ptr 1 0), (4, .kb false), (6, .int .i64 (v12)), (44, .int .i64 ((↑(List.length a3) : Int))), (45, .int .i64 (v12)), (46, .bool (decide (v12 < (↑(List.length a3) : Int)))), (47, .int .i64 (v12)), (48, .ptr 0 1), (49, .sl (a2) 56 (a3)), (50, .int .i64 (v12)), (51, .rel 56 (a3) (v12.toNat) 0), (52, .sl (rn a3 v12.toNat 0) 61 (rr a3 v12.toNat 0)), (53, .int .i64 ((↑(List.length (rr a3 v12.toNat 0)) : Int))), (54, .ptr 1 1), (55, .sl (a6) 56 (a7)), (56, .int .i64 (v12)), (57, .rel 56 (a7) (v12.toNat) 0), (58, .sl (rn a7 v12.toNat 0) 61 (rr a7 v12.toNat 0)), (59, .int .i64 ((↑(List.length (rr a7 v12.toNat 0)) : Int))), (60, .bool ((↑(List.length (rr a3 v12.toNat 0)) : Int) != (↑(List.length (rr a7 v12.toNat 0)) : Int))), (61, .ptr 0 1), (62, .sl (a2) 56 (a3)), (63, .int .i64 (v12)), (64, .rel 56 (a3) (v12.toNat) 0), (65, .sl (rn a3 v12.toNat 0) 61 (rr a3 v12.toNat 0)), (66, .int .i64 ((↑(List.length (rr a3 v12.toNat 0)) : Int))), (67, .int .i64 (v17.fst)), (68, .bool (v17.snd))], [(0, .box 30 [.sl (a0) 59 (a1), .sl (a2) 56 (a3)]), (1, .box 30 [.sl (a4) 59 (a5), .sl (a6) 56 (a7)])], 2, [], []⟩))) (W.bindE h) (Weak.a ?_) (fun v15 J_ Q h => ?_) (fun v h => ?_)
              · conv => whnf
                exact ⟨rfl, rfl, rfl, rfl, rfl⟩
              · conv => whnf
                refine ASeq.go tab_ok mixed_ ?_
                conv => whnf
                refine XSplit.mk (fun e => ?_) (fun e => ?_)
                · replace h := XSplit.t h e
                  conv => whnf
                  refine ASeq.go tab_ok mixed_ ?_
                  conv => whnf
                  refine XDraw.q [0, 1, 2, 3, 4, 5, 6, 7, 8, 9, 10, 11, 12, 13, 14, 15, 16] (by decide +kernel) ?_
                  conv => whnf
                  refine XNeed.mk (XNeed.c h) ?_; replace h := XNeed.x h
                  conv => whnf
                  refine XNeed.mk (XNeed.c h) ?_; replace h := XNeed.x h
                  conv => whnf
                  refine XNeed.mk (XNeed.c h) ?_; replace h := XNeed.x h
                  conv => whnf
                  refine XNeed.mk (XNeed.c h) ?_; replace h := XNeed.x h
                  conv => whnf
                  refine XSplit.mk (fun e => ?_) (fun e => ?_)
                  · replace h := XSplit.t h e
                    conv => whnf
                    refine ⟨_, ?_, Weak.a ?_, h⟩; exact rfl; (conv => whnf); exact ⟨rfl, rfl, rfl, rfl, rfl⟩
                  · replace h := XSplit.f h e
                    conv => whnf
                    refine ⟨_, Weak.a ?_, h⟩; (conv => whnf); exact ⟨rfl, rfl, rfl, rfl, rfl⟩
                · replace h := XSplit.f h e
                  conv => whnf
                  refine ⟨_, ?_, Weak.a ?_, h⟩; exact rfl; (conv => whnf); exact ⟨rfl, rfl, rfl, rfl, rfl⟩
              · rcases v with v16 | v17
                · conv => whnf
                  refine ⟨_, ?_, Weak.a ?_, h⟩; exact rfl; (conv => whnf); exact ⟨rfl, rfl, rfl, rfl, rfl⟩
                · conv => whnf
                  refine ⟨_, Weak.a ?_, h⟩; (conv => whnf); exact ⟨rfl, rfl, rfl, rfl, rfl⟩
          · replace h := XSplit.f h e
            conv => whnf
            refine ⟨_, ?_, Weak.a ?_, h⟩; exact rfl; (conv => whnf); exact ⟨rfl, rfl, rfl, rfl, rfl⟩
        · rcases v with v13 | v14
          · conv => whnf
            refine ⟨_, Weak.a ?_, ?_, h⟩; (conv => whnf); exact ⟨rfl, rfl, rfl, rfl, rfl⟩; exact rfl
          · conv => whnf
            refine ⟨_, Weak.a ?_, ?_, h⟩; (conv => whnf); exact ⟨rfl, rfl, rfl, rfl, rfl⟩; exact rfl

theorem c_ref15_Copy {a0 : Bool} {a1 : Rws} {a2 : Bool} {a3 : Rws} {Q : Bool × Rws × Bool × Rws → Prop} {R : AV → List AB → Prop} (h : (g_ref15_Copy a0 a1 a2 a3).run Q) (k : ∀ r, Q r → R (.agg [.own 0, .own 1]) ([.arr true 59 (r.fst) (r.snd.fst), .arr true 56 (r.snd.snd.fst) (r.snd.snd.snd)])) : ACalls Try.prog tab 8 [.agg [.sl (a0) 59 (a1), .sl (a2) 56 (a3)]] [] R := by
  refine ACalls.out (fun r => .agg [.own 0, .own 1]) (fun r => [.arr true 59 (r.fst) (r.snd.fst), .arr true 56 (r.snd.snd.fst) (r.snd.snd.snd)]) (Q := Q) (ACalls.introX (mv := mv) tab_ok mixed_ (fn := Try.f8) (by kernel_rfl) rfl (by kernel_rfl) (by kernel_rfl) (Nat.le_of_ble_eq_true rfl) ?_) (fun v => by first | exact ⟨rfl, Nat.le_of_ble_eq_true rfl⟩ | (cases v <;> exact ⟨rfl, Nat.le_of_ble_eq_true rfl⟩)) k
  conv => whnf
  refine ASeq.go tab_ok mixed_ ?_
  conv => whnf
  refine ALoop.ofW tab_ok mixed_ (fun v2 => ⟨[(1, .ptr 0 0), (2, .ptr 1 0), (3, .own 2), (7, .sl (a2) 56 (a3)), (8, .int .i64 ((↑(List.length a3) : Int))), (9, .int .i64 (v2.fst))], [(0, .box 30 [.sl (a0) 59 (a1), .sl (a2) 56 (a3)]), (1, .box 30 [.nils, .nils]), (2, .arr true 56 (v2.snd.fst) (v2.snd.snd))], 3, [], []⟩) (fun v3 => (.exit 0, ⟨[(1, .ptr 0 0), (2, .ptr 1 0), (3, .own 2)], [(0, .box 30 [.sl (a0) 59 (a1), .sl (a2) 56 (a3)]), (1, .box 30 [.nils, .nils]), (2, .arr true 56 (v3.fst) (v3.snd))], 3, [], []⟩)) (W.bindE h) (Weak.a ?_) (fun v2 J_ Q h => ?_) (fun v3 h => ?_)
  · conv => whnf
    exact ⟨rfl, rfl, rfl, rfl, rfl⟩
  · conv => whnf
    refine ASeq.go tab_ok mixed_ ?_
    conv => whnf
    refine XSplit.mk (fun e => ?_) (fun e => ?_)
    · replace h := XSplit.t h e
      conv => whnf
      refine ASeq.go tab_ok mixed_ ?_
      conv => whnf
      refine XNeed.mk (XNeed.c h) ?_; replace h := XNeed.x h
      conv => whnf
      refine XNeed.mk (XNeed.c h) ?_; replace h := XNeed.x h
      conv => whnf
      refine XNeed.mk (XNeed.c h) ?_; replace h := XNeed.x h
      conv => whnf
      refine ⟨_, Weak.a ?_, h⟩; (conv => whnf); exact ⟨rfl, rfl, rfl, rfl, rfl⟩
    · replace h := XSplit.f h e
      conv => whnf
      refine ⟨_, ?_, Weak.a ?_, h⟩; exact rfl; (conv => whnf); exact ⟨rfl, rfl, rfl, rfl, rfl⟩
  · conv => whnf
    refine XNeed.mk (XNeed.c h) ?_; replace h := XNeed.x h
    conv => whnf
    refine ⟨_, Weak.a ?_, ?_, h⟩; (conv => whnf); exact ⟨rfl, rfl, rfl, rfl, rfl⟩; exact rfl

theorem c_law15_CertSames {a0 : Bool} {a1 : Rws} {a2 : Bool} {a3 : Rws} {a4 : Bool} {a5 : Rws} {a6 : Bool} {a7 : Rws} {Q : Bool → Prop} {R : AV → List AB → Prop} (h : (g_law15_CertSames a0 a1 a2 a3 a4 a5 a6 a7).run Q) (k : ∀ r, Q r → R (.bool (r)) ([])) : ACalls Try.prog tab 4 [.agg [.sl (a0) 59 (a1), .sl (a2) 56 (a3)], .agg [.sl (a4) 59 (a5), .sl (a6) 56 (a7)]] [] R := by
  refine ACalls.out (fun r => .bool (r)) (fun r => []) (Q := Q) (ACalls.introX (mv := mv) tab_ok mixed_ (fn := Try.f4) (by kernel_rfl) rfl (by kernel_rfl) (by kernel_rfl) (Nat.le_of_ble_eq_true rfl) ?_) (fun v => by first | exact ⟨rfl, Nat.le_of_ble_eq_true rfl⟩ | (cases v <;> exact ⟨rfl, Nat.le_of_ble_eq_true rfl⟩)) k
  conv => whnf
  refine ASeq.joinW tab_ok mixed_ (fun v8 => ⟨[(4, .bool (v8))], [], 0, [], []⟩) h (fun Q h => ?_) (fun v8 h => ?_)
  · conv => whnf
    refine XDraw.d [0, 1, 2, 3, 5, 6, 4, 7, 8, 9, 10, 11, 12, 14, 15, 13, 16, 17, 18, 19, 20, 21, 22, 23, 24, 25] [[], [], [], [], [], [], [], [], [], [], [], [], [], [], [], [], [], [], [], [], [], [], [], [2], [], []] (by decide +kernel) ?_
    conv => whnf
    refine ACalls.inn (c_law15_fixed (W.bindE h) (fun v9 h => ?_)) ⟨rfl, rfl⟩
    conv => whnf
    refine XSplit.mk (fun e => ?_) (fun e => ?_)
    · replace h := XSplit.t h e
      conv => whnf
      refine ACalls.inn (c_cert_Same (W.bindE h) (fun v10 h => ?_)) ⟨rfl, rfl⟩
      conv => whnf
      refine ACalls.inn (c_ref15_Same (W.bindE h) (fun v11 h => ?_)) ⟨rfl, rfl⟩
      conv => whnf
      refine XSplit.mk (fun e => ?_) (fun e => ?_)
      · replace h := XSplit.t h e
        conv => whnf
        refine ACalls.inn (c_cert_Same (W.bindE h) (fun v12 h => ?_)) ⟨rfl, rfl⟩
        conv => whnf
        refine ACalls.inn (c_cert_Same (W.bindE h) (fun v13 h => ?_)) ⟨rfl, rfl⟩
        conv => whnf
        refine XSplit.mk (fun e => ?_) (fun e => ?_)
        · replace h := XSplit.t h e
          conv => whnf
          refine ACalls.inn (c_ref15_Copy (W.bindE h) (fun v14 h => ?_)) ⟨rfl, rfl⟩
          conv => whnf
          refine ACalls.inn (c_cert_Same (W.bindE h) (fun v15 h => ?_)) ⟨rfl, rfl⟩
          conv => whnf
          refine ⟨_, Weak.a ?_, h⟩; (conv => whnf); exact ⟨rfl, rfl, rfl, rfl, rfl⟩
        · replace h := XSplit.f h e
          conv => whnf
          refine ⟨_, Weak.a ?_, h⟩; (conv => whnf); exact ⟨rfl, rfl, rfl, rfl, rfl⟩
      · replace h := XSplit.f h e
        conv => whnf
        refine ⟨_, Weak.a ?_, h⟩; (conv => whnf); exact ⟨rfl, rfl, rfl, rfl, rfl⟩
    · replace h := XSplit.f h e
      conv => whnf
      refine ⟨_, Weak.a ?_, h⟩; (conv => whnf); exact ⟨rfl, rfl, rfl, rfl, rfl⟩
  · conv => whnf
    refine ⟨_, Weak.a ?_, ?_, h⟩; (conv => whnf); exact ⟨rfl, rfl, rfl, rfl, rfl⟩; exact rfl

theorem c_ref15_Blocks {a0 : Int} {a1 : Int} {Q : Int × Int → Prop} {R : AV → List AB → Prop} (h : (g_ref15_Blocks a0 a1).run Q) (k : ∀ r, Q r → R (.tup [.int .i64 (r.fst), .int .i64 (r.snd)]) ([])) : ACalls Try.prog tab 18 [.int .i64 (a0), .int .i64 (a1)] [] R := by
  refine ACalls.out (fun r => .tup [.int .i64 (r.fst), .int .i64 (r.snd)]) (fun r => []) (Q := Q) (ACalls.introX (mv := mv) tab_ok mixed_ (fn := Try.f18) (by kernel_rfl) rfl (by kernel_rfl) (by kernel_rfl) (Nat.le_of_ble_eq_true rfl) ?_) (fun v => by first | exact ⟨rfl, Nat.le_of_ble_eq_true rfl⟩ | (cases v <;> exact ⟨rfl, Nat.le_of_ble_eq_true rfl⟩)) k
  conv => whnf
  refine ASeq.go tab_ok mixed_ ?_
  conv => whnf
  refine XSplit.mk (fun e => ?_) (fun e => ?_)
  · replace h := XSplit.t h e
    conv => whnf
    refine ⟨_, Weak.a ?_, ?_, h⟩; (conv => whnf); exact ⟨rfl, rfl, rfl, rfl, rfl⟩; exact rfl
  · replace h := XSplit.f h e
    conv => whnf
    refine XNeed.mk (XNeed.c h) ?_; replace h := XNeed.x h
    conv => whnf
    refine ASeq.joinW tab_ok mixed_ (fun v1 => ⟨[(4, .int .i64 (0)), (5, .int .i64 (0)), (6, .int .i64 (v1))], [], 0, [], []⟩) h (fun Q h => ?_) (fun v1 h => ?_)
    · conv => whnf
      refine XNeed.mk (XNeed.c h) ?_; replace h := XNeed.x h
      conv => whnf
      refine XSplit.mk (fun e => ?_) (fun e => ?_)
      · replace h := XSplit.t h e
        conv => whnf
        refine ⟨_, Weak.a ?_, h⟩; (conv => whnf); exact ⟨rfl, rfl, rfl, rfl, rfl⟩
      · replace h := XSplit.f h e
        conv => whnf
        refine ⟨_, Weak.a ?_, h⟩; (conv => whnf); exact ⟨rfl, rfl, rfl, rfl, rfl⟩
    · conv => whnf
      refine ⟨_, Weak.a ?_, ?_, h⟩; (conv => whnf); exact ⟨rfl, rfl, rfl, rfl, rfl⟩; exact rfl

theorem c_law15_CertBlocks {a0 : Int} {a1 : Int} {Q : Bool → Prop} {R : AV → List AB → Prop} (h : (g_law15_CertBlocks a0 a1).run Q) (k : ∀ r, Q r → R (.bool (r)) ([])) : ACalls Try.prog tab 5 [.int .i64 (a0), .int .i64 (a1)] [] R := by
  refine ACalls.out (fun r => .bool (r)) (fun r => []) (Q := Q) (ACalls.introX (mv := mv) tab_ok mixed_ (fn := Try.f5) (by kernel_rfl) rfl (by kernel_rfl) (by kernel_rfl) (Nat.le_of_ble_eq_true rfl) ?_) (fun v => by first | exact ⟨rfl, Nat.le_of_ble_eq_true rfl⟩ | (cases v <;> exact ⟨rfl, Nat.le_of_ble_eq_true rfl⟩)) k
  conv => whnf
  refine ACalls.inn (c_cert_Blocks (W.bindE h) (fun v3 h => ?_)) ⟨rfl, rfl⟩
  conv => whnf
  refine ACalls.inn (c_ref15_Blocks (W.bindE h) (fun v4 h => ?_)) ⟨rfl, rfl⟩
  conv => whnf
  refine ASeq.go tab_ok mixed_ ?_
  conv => whnf
  refine ACalls.inn (c_law15_fixed (W.bindE h) (fun v5 h => ?_)) ⟨rfl, rfl⟩
  conv => whnf
  refine XSplit.mk (fun e => ?_) (fun e => ?_)
  · replace h := XSplit.t h e
    conv => whnf
    refine ⟨_, Weak.a ?_, ?_, h⟩; (conv => whnf); exact ⟨rfl, rfl, rfl, rfl, rfl⟩; exact rfl
  · replace h := XSplit.f h e
    conv => whnf
    refine ASeq.go tab_ok mixed_ ?_
    conv => whnf
    refine XSplit.mk (fun e => ?_) (fun e => ?_)
    · replace h := XSplit.t h e
      conv => whnf
      refine ⟨_, Weak.a ?_, ?_, h⟩; (conv => whnf); exact ⟨rfl, rfl, rfl, rfl, rfl⟩; exact rfl
    · replace h := XSplit.f h e
      conv => whnf
      refine ⟨_, Weak.a ?_, ?_, h⟩; (conv => whnf); exact ⟨rfl, rfl, rfl, rfl, rfl⟩; exact rfl
end Go.Proofs.Yticonbckgffjbaa.V15
