/- The functions are their pure forms. -/
import Derived.Test.YtpoakneeceaooaaVS
import Derived.Test.YtpoakneeceaooaaVX2
set_option linter.unusedVariables false
set_option linter.unusedSimpArgs false
set_option linter.unusedVariables false
set_option maxRecDepth 100000
set_option maxHeartbeats 0
namespace Go.Proofs.Ytpoakneeceaooaa.V09
open Go.Proofs Go.Proofs.Ytpoakneeceaooaa.VX
theorem c_ref08_Copy {a0 : Int} {a1 : Int} {a2 : Int} {a3 : Int} {a4 : Int} {a5 : Bool} {a6 : Rws} {a7 : Int} {Q : Int × Int × Int × Int × Int × Int × Bool × Rws → Prop} {R : AV → List AB → Prop} (h : (g_ref08_Copy a0 a1 a2 a3 a4 a5 a6 a7).run Q) (k : ∀ r, Q r → R (.agg [.int .i64 (r.fst), .int .i64 (r.snd.fst), .int .i64 (r.snd.snd.fst), .int .i64 (r.snd.snd.snd.fst), .int .i64 (r.snd.snd.snd.snd.fst), .own 0, .int .i64 (r.snd.snd.snd.snd.snd.fst)]) ([.arr true 50 (r.snd.snd.snd.snd.snd.snd.fst) (r.snd.snd.snd.snd.snd.snd.snd)])) : ACalls Try.prog tab 9 [.agg [.int .i64 (a0), .int .i64 (a1), .int .i64 (a2), .int .i64 (a3), .int .i64 (a4), .sl (a5) 50 (a6), .int .i64 (a7)]] [] R := by
  refine ACalls.out (fun r => .agg [.int .i64 (r.fst), .int .i64 (r.snd.fst), .int .i64 (r.snd.snd.fst), .int .i64 (r.snd.snd.snd.fst), .int .i64 (r.snd.snd.snd.snd.fst), .own 0, .int .i64 (r.snd.snd.snd.snd.snd.fst)]) (fun r => [.arr true 50 (r.snd.snd.snd.snd.snd.snd.fst) (r.snd.snd.snd.snd.snd.snd.snd)]) (Q := Q) (ACalls.introX (mv := mv) tab_ok mixed_ (fn := Try.f9) (by kernel_rfl) rfl (by kernel_rfl) (by kernel_rfl) (Nat.le_of_ble_eq_true rfl) ?_) (fun v => by first | exact ⟨rfl, Nat.le_of_ble_eq_true rfl⟩ | (cases v <;> exact ⟨rfl, Nat.le_of_ble_eq_true rfl⟩)) k
  conv => whnf
  refine ASeq.go tab_ok mixed_ ?_
  conv => whnf
  refine ALoop.ofW tab_ok mixed_ (fun v2 => ⟨[(1, .ptr 0 0), (2, .ptr 1 0), (3, .own 2), (7, .sl (a5) 50 (a6)), (8, .int .i64 ((↑(List.length a6) : Int))), (9, .int .i64 (v2.fst))], [(0, .box 26 [.int .i64 (a0), .int .i64 (a1), .int .i64 (a2), .int .i64 (a3), .int .i64 (a4), .sl (a5) 50 (a6), .int .i64 (a7)]), (1, .box 26 [.int .i64 (0), .int .i64 (0), .int .i64 (0), .int .i64 (0), .int .i64 (0), .nils, .int .i64 (0)]), (2, .arr true 50 (v2.snd.fst) (v2.snd.snd))], 3, [], []⟩) (fun v3 => (.exit 0, ⟨[(1, .ptr 0 0), (2, .ptr 1 0), (3, .own 2)], [(0, .box 26 [.int .i64 (a0), .int .i64 (a1), .int .i64 (a2), .int .i64 (a3), .int .i64 (a4), .sl (a5) 50 (a6), .int .i64 (a7)]), (1, .box 26 [.int .i64 (0), .int .i64 (0), .int .i64 (0), .int .i64 (0), .int .i64 (0), .nils, .int .i64 (0)]), (2, .arr true 50 (v3.fst) (v3.snd))], 3, [], []⟩)) (W.bindE h) (Weak.a ?_) (fun v2 J_ Q h => ?_) (fun v3 h => ?_)
  · conv => whnf
    exact ⟨rfl, rfl, rfl, rfl, rfl⟩
  · conv => whnf
    refine ASeq.go tab_ok mixed_ ?_
    conv => whnf
    refine XSplit.mk (fun e => ?_) (fun e => ?_)
    · replace h := XSplit.t h e
      conv => whnf
      refine ASeq.go tab_ok mixed_ ?_
      conv => whnf
      refine XNeed.mk (XNeed.c h) ?_; replace h := XNeed.x h
      conv => whnf
      refine XNeed.mk (XNeed.c h) ?_; replace h := XNeed.x h
      conv => whnf
      refine XNeed.mk (XNeed.c h) ?_; replace h := XNeed.x h
      conv => whnf
      refine XNeed.mk (XNeed.c h) ?_; replace h := XNeed.x h
      conv => whnf
      refine ⟨_, Weak.a ?_, h⟩; (conv => whnf); exact ⟨rfl, rfl, rfl, rfl, rfl⟩
    · replace h := XSplit.f h e
      conv => whnf
      refine ⟨_, ?_, Weak.a ?_, h⟩; exact rfl; (conv => whnf); exact ⟨rfl, rfl, rfl, rfl, rfl⟩
  · conv => whnf
    refine ⟨_, Weak.a ?_, ?_, h⟩; (conv => whnf); exact ⟨rfl, rfl, rfl, rfl, rfl⟩; exact rfl

theorem c_shape_Elems {a0 : Int} {a1 : Int} {a2 : Int} {Q : Int × Int → Prop} {R : AV → List AB → Prop} (h : (g_shape_Elems a0 a1 a2).run Q) (k : ∀ r, Q r → R (.tup [.int .i64 (r.fst), .int .i64 (r.snd)]) ([])) : ACalls Try.prog tab 63 [.agg [.int .i64 (a0), .int .i64 (a1), .int .i64 (a2)]] [] R := by
  refine ACalls.out (fun r => .tup [.int .i64 (r.fst), .int .i64 (r.snd)]) (fun r => []) (Q := Q) (ACalls.introX (mv := mv) tab_ok mixed_ (fn := Try.f63) (by kernel_rfl) rfl (by kernel_rfl) (by kernel_rfl) (Nat.le_of_ble_eq_true rfl) ?_) (fun v => by first | exact ⟨rfl, Nat.le_of_ble_eq_true rfl⟩ | (cases v <;> exact ⟨rfl, Nat.le_of_ble_eq_true rfl⟩)) k
  conv => whnf
  refine ASeq.go tab_ok mixed_ ?_
  conv => whnf
  refine ALoop.unroll tab_ok mixed_ (kn := fun st => ALoop Try.prog tab _ _ _ _ st _) (fun _ h => h) ?_
  conv => whnf
  refine ASeq.go tab_ok mixed_ ?_
  conv => whnf
  refine XSplit.tt rfl ?_
  conv => whnf
  refine ASeq.go tab_ok mixed_ ?_
  conv => whnf
  refine XNeed.mk (of_decide_eq_true rfl) ?_
  conv => whnf
  refine ASeq.go tab_ok mixed_ ?_
  conv => whnf
  refine XSplit.mk (fun e => ?_) (fun e => ?_)
  · replace h := XSplit.t h e
    conv => whnf
    refine ⟨_, Weak.a ?_, ?_, h⟩; (conv => whnf); exact ⟨rfl, rfl, rfl, rfl, rfl⟩; exact rfl
  · replace h := XSplit.f h e
    conv => whnf
    refine ALoop.unroll tab_ok mixed_ (kn := fun st => ALoop Try.prog tab _ _ _ _ st _) (fun _ h => h) ?_
    conv => whnf
    refine ASeq.go tab_ok mixed_ ?_
    conv => whnf
    refine XSplit.tt rfl ?_
    conv => whnf
    refine ASeq.go tab_ok mixed_ ?_
    conv => whnf
    refine XNeed.mk (of_decide_eq_true rfl) ?_
    conv => whnf
    refine ASeq.go tab_ok mixed_ ?_
    conv => whnf
    refine XSplit.mk (fun e => ?_) (fun e => ?_)
    · replace h := XSplit.t h e
      conv => whnf
      refine ⟨_, Weak.a ?_, ?_, h⟩; (conv => whnf); exact ⟨rfl, rfl, rfl, rfl, rfl⟩; exact rfl
    · replace h := XSplit.f h e
      conv => whnf
      refine ALoop.unroll tab_ok mixed_ (kn := fun st => ALoop Try.prog tab _ _ _ _ st _) (fun _ h => h) ?_
      conv => whnf
      refine ASeq.go tab_ok mixed_ ?_
      conv => whnf
      refine XSplit.tt rfl ?_
      conv => whnf
      refine ASeq.go tab_ok mixed_ ?_
      conv => whnf
      refine XNeed.mk (of_decide_eq_true rfl) ?_
      conv => whnf
      refine ASeq.go tab_ok mixed_ ?_
      conv => whnf
      refine XSplit.mk (fun e => ?_) (fun e => ?_)
      · replace h := XSplit.t h e
        conv => whnf
        refine ⟨_, Weak.a ?_, ?_, h⟩; (conv => whnf); exact ⟨rfl, rfl, rfl, rfl, rfl⟩; exact rfl
      · replace h := XSplit.f h e
        conv => whnf
        refine ALoop.unroll tab_ok mixed_ (kn := fun st => ALoop Try.prog tab _ _ _ _ st _) (fun _ h => h) ?_
        conv => whnf
        refine ASeq.go tab_ok mixed_ ?_
        conv => whnf
        refine XSplit.ff rfl ?_
        conv => whnf
        refine ASeq.go tab_ok mixed_ ?_
        conv => whnf
        refine XSplit.mk (fun e => ?_) (fun e => ?_)
        · replace h := XSplit.t h e
          conv => whnf
          refine ⟨_, Weak.a ?_, ?_, h⟩; (conv => whnf); exact ⟨rfl, rfl, rfl, rfl, rfl⟩; exact rfl
        · replace h := XSplit.f h e
          conv => whnf
          refine ⟨_, Weak.a ?_, ?_, h⟩; (conv => whnf); exact ⟨rfl, rfl, rfl, rfl, rfl⟩; exact rfl

theorem c_model_byte8 {a0 : Bool} {a1 : Rws} {Q : Bool → Prop} {R : AV → List AB → Prop} (h : (g_model_byte8 a0 a1).run Q) (k : ∀ r, Q r → R (.bool (r)) ([])) : ACalls Try.prog tab 64 [.sl (a0) 3 (a1)] [] R := by
  refine ACalls.out (fun r => .bool (r)) (fun r => []) (Q := Q) (ACalls.introX (mv := mv) tab_ok mixed_ (fn := Try.f64) (by kernel_rfl) rfl (by kernel_rfl) (by kernel_rfl) (Nat.le_of_ble_eq_true rfl) ?_) (fun v => by first | exact ⟨rfl, Nat.le_of_ble_eq_true rfl⟩ | (cases v <;> exact ⟨rfl, Nat.le_of_ble_eq_true rfl⟩)) k
  conv => whnf
  refine ASeq.go tab_ok mixed_ ?_
  conv => whnf
  refine ALoop.ofW tab_ok mixed_ (fun v3 => ⟨[(2, .kb false), (5, .sl (a0) 3 (a1)), (6, .int .i64 ((↑(List.length a1) : Int))), (7, .int .i64 (v3))], [], 0, [], []⟩) (sx (fun v4 => (.ret, ⟨[(2, .kb false)], [], 0, [], []⟩)) (fun v5 => (.exit 0, ⟨[(2, .kb false)], [], 0, [], []⟩))) (W.bindE h) (Weak.a ?_) (fun v3 J_ Q h => ?_) (fun v h => ?_)
  · conv => whnf
    exact ⟨rfl, rfl, rfl, rfl, rfl⟩
  · conv => whnf
    refine ASeq.go tab_ok mixed_ ?_
    conv => whnf
    refine XSplit.mk (fun e => ?_) (fun e => ?_)
    · replace h := XSplit.t h e
      conv => whnf
      refine ASeq.go tab_ok mixed_ ?_
      conv => whnf
      refine XNeed.mk (XNeed.c h) ?_; replace h := XNeed.x h
      conv => whnf
      refine XSplit.mk (fun e => ?_) (fun e => ?_)
      · replace h := XSplit.t h e
        conv => whnf
        refine ⟨_, ?_, Weak.a ?_, h⟩; exact rfl; (conv => whnf); exact ⟨rfl, rfl, rfl, rfl, rfl⟩
      · replace h := XSplit.f h e
        conv => whnf
        refine ⟨_, Weak.a ?_, h⟩; (conv => whnf); exact ⟨rfl, rfl, rfl, rfl, rfl⟩
    · replace h := XSplit.f h e
      conv => whnf
      refine ⟨_, ?_, Weak.a ?_, h⟩; exact rfl; (conv => whnf); exact ⟨rfl, rfl, rfl, rfl, rfl⟩
  · rcases v with v4 | v5
    · conv => whnf
      refine ⟨_, Weak.a ?_, ?_, h⟩; (conv => whnf); exact ⟨rfl, rfl, rfl, rfl, rfl⟩; exact rfl
    · conv => whnf
      refine ⟨_, Weak.a ?_, ?_, h⟩; (conv => whnf); exact ⟨rfl, rfl, rfl, rfl, rfl⟩; exact rfl

theorem c_model_of {a0 : Int} {Q : Bool × Bool × Bool × Bool × Bool × Bool × Bool × Bool × Bool → Prop} {R : AV → List AB → Prop} (h : (g_model_of a0).run Q) (k : ∀ r, Q r → R (.tup [.agg [.bool (r.fst), .bool (r.snd.fst), .bool (r.snd.snd.fst), .bool (r.snd.snd.snd.fst), .bool (r.snd.snd.snd.snd.fst), .bool (r.snd.snd.snd.snd.snd.fst), .bool (r.snd.snd.snd.snd.snd.snd.fst), .bool (r.snd.snd.snd.snd.snd.snd.snd.fst)], .bool (r.snd.snd.snd.snd.snd.snd.snd.snd)]) ([])) : ACalls Try.prog tab 78 [.int .i64 (a0)] [] R := by
  refine ACalls.out (fun r => .tup [.agg [.bool (r.fst), .bool (r.snd.fst), .bool (r.snd.snd.fst), .bool (r.snd.snd.snd.fst), .bool (r.snd.snd.snd.snd.fst), .bool (r.snd.snd.snd.snd.snd.fst), .bool (r.snd.snd.snd.snd.snd.snd.fst), .bool (r.snd.snd.snd.snd.snd.snd.snd.fst)], .bool (r.snd.snd.snd.snd.snd.snd.snd.snd)]) (fun r => []) (Q := Q) (ACalls.introX (mv := mv) tab_ok mixed_ (fn := Try.f78) (by kernel_rfl) rfl (by kernel_rfl) (by kernel_rfl) (Nat.le_of_ble_eq_true rfl) ?_) (fun v => by first | exact ⟨rfl, Nat.le_of_ble_eq_true rfl⟩ | (cases v <;> exact ⟨rfl, Nat.le_of_ble_eq_true rfl⟩)) k
  conv => whnf
  refine ASeq.go tab_ok mixed_ ?_
  conv => whnf
  refine XSplit.mk (fun e => ?_) (fun e => ?_)
  · replace h := XSplit.t h e
    conv => whnf
    refine ⟨_, Weak.a ?_, ?_, h⟩; (conv => whnf); exact ⟨rfl, rfl, rfl, rfl, rfl⟩; exact rfl
  · replace h := XSplit.f h e
    conv => whnf
    refine XSplit.mk (fun e => ?_) (fun e => ?_)
    · replace h := XSplit.t h e
      conv => whnf
      refine ⟨_, Weak.a ?_, ?_, h⟩; (conv => whnf); exact ⟨rfl, rfl, rfl, rfl, rfl⟩; exact rfl
    · replace h := XSplit.f h e
      conv => whnf
      refine XSplit.mk (fun e => ?_) (fun e => ?_)
      · replace h := XSplit.t h e
        conv => whnf
        refine ⟨_, Weak.a ?_, ?_, h⟩; (conv => whnf); exact ⟨rfl, rfl, rfl, rfl, rfl⟩; exact rfl
      · replace h := XSplit.f h e
        conv => whnf
        refine ASeq.joinW tab_ok mixed_ (fun v1 => ⟨[(2, .ptr 0 0), (3, .kb false), (4, .int .i64 (a0)), (14, .bool (v1))], [(0, .box 126 [.kb false, .kb false, .kb false, .kb false, .kb false, .kb false, .kb false, .kb false])], 1, [], []⟩) h (fun Q h => ?_) (fun v1 h => ?_)
        · conv => whnf
          refine XSplit.mk (fun e => ?_) (fun e => ?_)
          · replace h := XSplit.t h e
            conv => whnf
            refine ⟨_, Weak.a ?_, h⟩; (conv => whnf); exact ⟨rfl, rfl, rfl, rfl, rfl⟩
          · replace h := XSplit.f h e
            conv => whnf
            refine ⟨_, Weak.a ?_, h⟩; (conv => whnf); exact ⟨rfl, rfl, rfl, rfl, rfl⟩
        · conv => whnf
          refine XSplit.mk (fun e => ?_) (fun e => ?_)
          · replace h := XSplit.t h e
            conv => whnf
            refine ⟨_, Weak.a ?_, ?_, h⟩; (conv => whnf); exact ⟨rfl, rfl, rfl, rfl, rfl⟩; exact rfl
          · replace h := XSplit.f h e
            conv => whnf
            refine XSplit.mk (fun e => ?_) (fun e => ?_)
            · replace h := XSplit.t h e
              conv => whnf
              refine ⟨_, Weak.a ?_, ?_, h⟩; (conv => whnf); exact ⟨rfl, rfl, rfl, rfl, rfl⟩; exact rfl
            · replace h := XSplit.f h e
              conv => whnf
              refine XSplit.mk (fun e => ?_) (fun e => ?_)
              · replace h := XSplit.t h e
                conv => whnf
                refine ⟨_, Weak.a ?_, ?_, h⟩; (conv => whnf); exact ⟨rfl, rfl, rfl, rfl, rfl⟩; exact rfl
              · replace h := XSplit.f h e
                conv => whnf
                refine XSplit.mk (fun e => ?_) (fun e => ?_)
                · replace h := XSplit.t h e
                  conv => whnf
                  refine ⟨_, Weak.a ?_, ?_, h⟩; (conv => whnf); exact ⟨rfl, rfl, rfl, rfl, rfl⟩; exact rfl
                · replace h := XSplit.f h e
                  conv => whnf
                  refine ⟨_, Weak.a ?_, ?_, h⟩; (conv => whnf); exact ⟨rfl, rfl, rfl, rfl, rfl⟩; exact rfl

theorem c_model_bare {a0 : Int} {a1 : Int} {a2 : Int} {a3 : Int} {a4 : Int} {a5 : Int} {a6 : Int} {a7 : Int} {a8 : Int} {a9 : Int} {a10 : Int} {a11 : Int} {a12 : Bool} {a13 : Rws} {a14 : Bool} {a15 : Rws} {a16 : Int} {a17 : Int} {a18 : Int} {a19 : Int} {a20 : Int} {a21 : Int} {a22 : Int} {a23 : Int} {a24 : Bool} {a25 : Bool} {a26 : Bool} {a27 : Bool} {a28 : Bool} {a29 : Bool} {a30 : Bool} {a31 : Bool} {Q : Int × Int × Int × Int × Int × Int × Int × Int × Int × Int × Int × Int × Bool × Rws × Bool × Rws × Int × Int × Int × Int × Int × Int × Int × Int → Prop} {R : AV → List AB → Prop} (h : (g_model_bare a0 a1 a2 a3 a4 a5 a6 a7 a8 a9 a10 a11 a12 a13 a14 a15 a16 a17 a18 a19 a20 a21 a22 a23 a24 a25 a26 a27 a28 a29 a30 a31).run Q) (k : ∀ r, Q r → R (.agg [.int .i64 (r.fst), .int .i64 (r.snd.fst), .int .i64 (r.snd.snd.fst), .int .i64 (r.snd.snd.snd.fst), .int .i64 (r.snd.snd.snd.snd.fst), .int .i64 (r.snd.snd.snd.snd.snd.fst), .int .i64 (r.snd.snd.snd.snd.snd.snd.fst), .int .i64 (r.snd.snd.snd.snd.snd.snd.snd.fst), .int .i64 (r.snd.snd.snd.snd.snd.snd.snd.snd.fst), .int .i64 (r.snd.snd.snd.snd.snd.snd.snd.snd.snd.fst), .int .i64 (r.snd.snd.snd.snd.snd.snd.snd.snd.snd.snd.fst), .int .i64 (r.snd.snd.snd.snd.snd.snd.snd.snd.snd.snd.snd.fst), .sl (r.snd.snd.snd.snd.snd.snd.snd.snd.snd.snd.snd.snd.fst) 51 (r.snd.snd.snd.snd.snd.snd.snd.snd.snd.snd.snd.snd.snd.fst), .sl (r.snd.snd.snd.snd.snd.snd.snd.snd.snd.snd.snd.snd.snd.snd.fst) 21 (r.snd.snd.snd.snd.snd.snd.snd.snd.snd.snd.snd.snd.snd.snd.snd.fst), .int .i64 (r.snd.snd.snd.snd.snd.snd.snd.snd.snd.snd.snd.snd.snd.snd.snd.snd.fst), .int .i64 (r.snd.snd.snd.snd.snd.snd.snd.snd.snd.snd.snd.snd.snd.snd.snd.snd.snd.fst), .int .i64 (r.snd.snd.snd.snd.snd.snd.snd.snd.snd.snd.snd.snd.snd.snd.snd.snd.snd.snd.fst), .int .i64 (r.snd.snd.snd.snd.snd.snd.snd.snd.snd.snd.snd.snd.snd.snd.snd.snd.snd.snd.snd.fst), .int .i64 (r.snd.snd.snd.snd.snd.snd.snd.snd.snd.snd.snd.snd.snd.snd.snd.snd.snd.snd.snd.snd.fst), .int .i64 (r.snd.snd.snd.snd.snd.snd.snd.snd.snd.snd.snd.snd.snd.snd.snd.snd.snd.snd.snd.snd.snd.fst), .int .i64 (r.snd.snd.snd.snd.snd.snd.snd.snd.snd.snd.snd.snd.snd.snd.snd.snd.snd.snd.snd.snd.snd.snd.fst), .int .i64 (r.snd.snd.snd.snd.snd.snd.snd.snd.snd.snd.snd.snd.snd.snd.snd.snd.snd.snd.snd.snd.snd.snd.snd)]) ([])) : ACalls Try.prog tab 80 [.agg [.int .i64 (a0), .int .i64 (a1), .int .i64 (a2), .int .i64 (a3), .int .i64 (a4), .int .i64 (a5), .int .i64 (a6), .int .i64 (a7), .int .i64 (a8), .int .i64 (a9), .int .i64 (a10), .int .i64 (a11), .sl (a12) 51 (a13), .sl (a14) 21 (a15), .int .i64 (a16), .int .i64 (a17), .int .i64 (a18), .int .i64 (a19), .int .i64 (a20), .int .i64 (a21), .int .i64 (a22), .int .i64 (a23)], .agg [.bool (a24), .bool (a25), .bool (a26), .bool (a27), .bool (a28), .bool (a29), .bool (a30), .bool (a31)]] [] R := by
  refine ACalls.out (fun r => .agg [.int .i64 (r.fst), .int .i64 (r.snd.fst), .int .i64 (r.snd.snd.fst), .int .i64 (r.snd.snd.snd.fst), .int .i64 (r.snd.snd.snd.snd.fst), .int .i64 (r.snd.snd.snd.snd.snd.fst), .int .i64 (r.snd.snd.snd.snd.snd.snd.fst), .int .i64 (r.snd.snd.snd.snd.snd.snd.snd.fst), .int .i64 (r.snd.snd.snd.snd.snd.snd.snd.snd.fst), .int .i64 (r.snd.snd.snd.snd.snd.snd.snd.snd.snd.fst), .int .i64 (r.snd.snd.snd.snd.snd.snd.snd.snd.snd.snd.fst), .int .i64 (r.snd.snd.snd.snd.snd.snd.snd.snd.snd.snd.snd.fst), .sl (r.snd.snd.snd.snd.snd.snd.snd.snd.snd.snd.snd.snd.fst) 51 (r.snd.snd.snd.snd.snd.snd.snd.snd.snd.snd.snd.snd.snd.fst), .sl (r.snd.snd.snd.snd.snd.snd.snd.snd.snd.snd.snd.snd.snd.snd.fst) 21 (r.snd.snd.snd.snd.snd.snd.snd.snd.snd.snd.snd.snd.snd.snd.snd.fst), .int .i64 (r.snd.snd.snd.snd.snd.snd.snd.snd.snd.snd.snd.snd.snd.snd.snd.snd.fst), .int .i64 (r.snd.snd.snd.snd.snd.snd.snd.snd.snd.snd.snd.snd.snd.snd.snd.snd.snd.fst), .int .i64 (r.snd.snd.snd.snd.snd.snd.snd.snd.snd.snd.snd.snd.snd.snd.snd.snd.snd.snd.fst), .int .i64 (r.snd.snd.snd.snd.snd.snd.snd.snd.snd.snd.snd.snd.snd.snd.snd.snd.snd.snd.snd.fst), .int .i64 (r.snd.snd.snd.snd.snd.snd.snd.snd.snd.snd.snd.snd.snd.snd.snd.snd.snd.snd.snd.snd.fst), .int .i64 (r.snd.snd.snd.snd.snd.snd.snd.snd.snd.snd.snd.snd.snd.snd.snd.snd.snd.snd.snd.snd.snd.fst), .int .i64 (r.snd.snd.snd.snd.snd.snd.snd.snd.snd.snd.snd.snd.snd.snd.snd.snd.snd.snd.snd.snd.snd.snd.fst), .int .i64 (r.snd.snd.snd.snd.snd.snd.snd.snd.snd.snd.snd.snd.snd.snd.snd.snd.snd.snd.snd.snd.snd.snd.snd)]) (fun r => []) (Q := Q) (ACalls.introX (mv := mv) tab_ok mixed_ (fn := Try.f80) (by kernel_rfl) rfl (by kernel_rfl) (by kernel_rfl) (Nat.le_of_ble_eq_true rfl) ?_) (fun v => by first | exact ⟨rfl, Nat.le_of_ble_eq_true rfl⟩ | (cases v <;> exact ⟨rfl, Nat.le_of_ble_eq_true rfl⟩)) k
  conv => whnf
  refine ASeq.joinW tab_ok mixed_ (fun v8 => ⟨[(2, .ptr 0 0), (3, .ptr 1 0), (4, .ptr 2 0)], [(0, .box 50 [.int .i64 (0), .int .i64 (0), .int .i64 (v8), .int .i64 (a3), .int .i64 (a4), .int .i64 (a5), .int .i64 (a6), .int .i64 (a7), .int .i64 (a8), .int .i64 (a9), .int .i64 (a10), .int .i64 (a11), .sl (a12) 51 (a13), .sl (a14) 21 (a15), .int .i64 (a16), .int .i64 (a17), .int .i64 (a18), .int .i64 (a19), .int .i64 (a20), .int .i64 (a21), .int .i64 (0), .int .i64 (0)]), (1, .box 126 [.bool (a24), .bool (a25), .bool (a26), .bool (a27), .bool (a28), .bool (a29), .bool (a30), .bool (a31)]), (2, .box 50 [.int .i64 (0), .int .i64 (0), .int .i64 (0), .int .i64 (0), .int .i64 (0), .int .i64 (0), .int .i64 (0), .int .i64 (0), .int .i64 (0), .int .i64 (0), .int .i64 (0), .int .i64 (0), .nils, .nils, .int .i64 (0), .int .i64 (0), .int .i64 (0), .int .i64 (0), .int .i64 (0), .int .i64 (0), .int .i64 (0), .int .i64 (0)])], 3, [], []⟩) h (fun Q h => ?_) (fun v8 h => ?_)
  · conv => whnf
    refine XSplit.mk (fun e => ?_) (fun e => ?_)
    · replace h := XSplit.t h e
      conv => whnf
      refine ⟨_, Weak.a ?_, h⟩; (conv => whnf); exact ⟨rfl, rfl, rfl, rfl, rfl⟩
    · replace h := XSplit.f h e
      conv => whnf
      refine ⟨_, Weak.a ?_, h⟩; (conv => whnf); exact ⟨rfl, rfl, rfl, rfl, rfl⟩
  · conv => whnf
    refine ASeq.joinW tab_ok mixed_ (fun v9 => ⟨[(2, .ptr 0 0), (3, .ptr 1 0), (4, .ptr 2 0)], [(0, .box 50 [.int .i64 (0), .int .i64 (0), .int .i64 (v8), .int .i64 (v9), .int .i64 (a4), .int .i64 (a5), .int .i64 (a6), .int .i64 (a7), .int .i64 (a8), .int .i64 (a9), .int .i64 (a10), .int .i64 (a11), .sl (a12) 51 (a13), .sl (a14) 21 (a15), .int .i64 (a16), .int .i64 (a17), .int .i64 (a18), .int .i64 (a19), .int .i64 (a20), .int .i64 (a21), .int .i64 (0), .int .i64 (0)]), (1, .box 126 [.bool (a24), .bool (a25), .bool (a26), .bool (a27), .bool (a28), .bool (a29), .bool (a30), .bool (a31)]), (2, .box 50 [.int .i64 (0), .int .i64 (0), .int .i64 (0), .int .i64 (0), .int .i64 (0), .int .i64 (0), .int .i64 (0), .int .i64 (0), .int .i64 (0), .int .i64 (0), .int .i64 (0), .int .i64 (0), .nils, .nils, .int .i64 (0), .int .i64 (0), .int .i64 (0), .int .i64 (0), .int .i64 (0), .int .i64 (0), .int .i64 (0), .int .i64 (0)])], 3, [], []⟩) h (fun Q h => ?_) (fun v9 h => ?_)
    · conv => whnf
      refine XSplit.mk (fun e => ?_) (fun e => ?_)
      · replace h := XSplit.t h e
        conv => whnf
        refine ⟨_, Weak.a ?_, h⟩; (conv => whnf); exact ⟨rfl, rfl, rfl, rfl, rfl⟩
      · replace h := XSplit.f h e
        conv => whnf
        refine ⟨_, Weak.a ?_, h⟩; (conv => whnf); exact ⟨rfl, rfl, rfl, rfl, rfl⟩
    · conv => whnf
      refine ASeq.joinW tab_ok mixed_ (fun v10 => ⟨[(2, .ptr 0 0), (3, .ptr 1 0), (4, .ptr 2 0)], [(0, .box 50 [.int .i64 (0), .int .i64 (0), .int .i64 (v8), .int .i64 (v9), .int .i64 (v10.fst), .int .i64 (v10.snd.fst), .int .i64 (v10.snd.snd.fst), .int .i64 (v10.snd.snd.snd), .int .i64 (a8), .int .i64 (a9), .int .i64 (a10), .int .i64 (a11), .sl (a12) 51 (a13), .sl (a14) 21 (a15), .int .i64 (a16), .int .i64 (a17), .int .i64 (a18), .int .i64 (a19), .int .i64 (a20), .int .i64 (a21), .int .i64 (0), .int .i64 (0)]), (1, .box 126 [.bool (a24), .bool (a25), .bool (a26), .bool (a27), .bool (a28), .bool (a29), .bool (a30), .bool (a31)]), (2, .box 50 [.int .i64 (0), .int .i64 (0), .int .i64 (0), .int .i64 (0), .int .i64 (0), .int .i64 (0), .int .i64 (0), .int .i64 (0), .int .i64 (0), .int .i64 (0), .int .i64 (0), .int .i64 (0), .nils, .nils, .int .i64 (0), .int .i64 (0), .int .i64 (0), .int .i64 (0), .int .i64 (0), .int .i64 (0), .int .i64 (0), .int .i64 (0)])], 3, [], []⟩) h (fun Q h => ?_) (fun v10 h => ?_)
      · conv => whnf
        refine XSplit.mk (fun e => ?_) (fun e => ?_)
        · replace h := XSplit.t h e
          conv => whnf
          refine ⟨_, Weak.a ?_, h⟩; (conv => whnf); exact ⟨rfl, rfl, rfl, rfl, rfl⟩
        · replace h := XSplit.f h e
          conv => whnf
          refine ⟨_, Weak.a ?_, h⟩; (conv => whnf); exact ⟨rfl, rfl, rfl, rfl, rfl⟩
      · conv => whnf
        refine ASeq.joinW tab_ok mixed_ (fun v11 => ⟨[(2, .ptr 0 0), (3, .ptr 1 0), (4, .ptr 2 0)], [(0, .box 50 [.int .i64 (0), .int .i64 (0), .int .i64 (v8), .int .i64 (v9), .int .i64 (v11.fst), .int .i64 (v11.snd.fst), .int .i64 (v11.snd.snd.fst), .int .i64 (v11.snd.snd.snd.fst), .int .i64 (v11.snd.snd.snd.snd.fst), .int .i64 (v11.snd.snd.snd.snd.snd.fst), .int .i64 (v11.snd.snd.snd.snd.snd.snd.fst), .int .i64 (v11.snd.snd.snd.snd.snd.snd.snd), .sl (a12) 51 (a13), .sl (a14) 21 (a15), .int .i64 (a16), .int .i64 (a17), .int .i64 (a18), .int .i64 (a19), .int .i64 (a20), .int .i64 (a21), .int .i64 (0), .int .i64 (0)]), (1, .box 126 [.bool (a24), .bool (a25), .bool (a26), .bool (a27), .bool (a28), .bool (a29), .bool (a30), .bool (a31)]), (2, .box 50 [.int .i64 (0), .int .i64 (0), .int .i64 (0), .int .i64 (0), .int .i64 (0), .int .i64 (0), .int .i64 (0), .int .i64 (0), .int .i64 (0), .int .i64 (0), .int .i64 (0), .int .i64 (0), .nils, .nils, .int .i64 (0), .int .i64 (0), .int .i64 (0), .int .i64 (0), .int .i64 (0), .int .i64 (0), .int .i64 (0), .int .i64 (0)])], 3, [], []⟩) h (fun Q h => ?_) (fun v11 h => ?_)
        · conv => whnf
          refine XSplit.mk (fun e => ?_) (fun e => ?_)
          · replace h := XSplit.t h e
            conv => whnf
            refine ⟨_, Weak.a ?_, h⟩; (conv => whnf); exact ⟨rfl, rfl, rfl, rfl, rfl⟩
          · replace h := XSplit.f h e
            conv => whnf
            refine ⟨_, Weak.a ?_, h⟩; (conv => whnf); exact ⟨rfl, rfl, rfl, rfl, rfl⟩
        · conv => whnf
          refine ASeq.joinW tab_ok mixed_ (fun v12 => ⟨[(2, .ptr 0 0), (3, .ptr 1 0), (4, .ptr 2 0)], [(0, .box 50 [.int .i64 (0), .int .i64 (0), .int .i64 (v8), .int .i64 (v9), .int .i64 (v11.fst), .int .i64 (v11.snd.fst), .int .i64 (v11.snd.snd.fst), .int .i64 (v11.snd.snd.snd.fst), .int .i64 (v11.snd.snd.snd.snd.fst), .int .i64 (v11.snd.snd.snd.snd.snd.fst), .int .i64 (v11.snd.snd.snd.snd.snd.snd.fst), .int .i64 (v11.snd.snd.snd.snd.snd.snd.snd), .sl (v12.fst) 51 (v12.snd.fst), .sl (v12.snd.snd.fst) 21 (v12.snd.snd.snd), .int .i64 (a16), .int .i64 (a17), .int .i64 (a18), .int .i64 (a19), .int .i64 (a20), .int .i64 (a21), .int .i64 (0), .int .i64 (0)]), (1, .box 126 [.bool (a24), .bool (a25), .bool (a26), .bool (a27), .bool (a28), .bool (a29), .bool (a30), .bool (a31)]), (2, .box 50 [.int .i64 (0), .int .i64 (0), .int .i64 (0), .int .i64 (0), .int .i64 (0), .int .i64 (0), .int .i64 (0), .int .i64 (0), .int .i64 (0), .int .i64 (0), .int .i64 (0), .int .i64 (0), .nils, .nils, .int .i64 (0), .int .i64 (0), .int .i64 (0), .int .i64 (0), .int .i64 (0), .int .i64 (0), .int .i64 (0), .int .i64 (0)])], 3, [], []⟩) h (fun Q h => ?_) (fun v12 h => ?_)
          · conv => whnf
            refine XSplit.mk (fun e => ?_) (fun e => ?_)
            · replace h := XSplit.t h e
              conv => whnf
              refine ⟨_, Weak.a ?_, h⟩; (conv => whnf); exact ⟨rfl, rfl, rfl, rfl, rfl⟩
            · replace h := XSplit.f h e
              conv => whnf
              refine ⟨_, Weak.a ?_, h⟩; (conv => whnf); exact ⟨rfl, rfl, rfl, rfl, rfl⟩
          · conv => whnf
            refine ASeq.joinW tab_ok mixed_ (fun v13 => ⟨[(2, .ptr 0 0), (3, .ptr 1 0), (4, .ptr 2 0)], [(0, .box 50 [.int .i64 (0), .int .i64 (0), .int .i64 (v8), .int .i64 (v9), .int .i64 (v11.fst), .int .i64 (v11.snd.fst), .int .i64 (v11.snd.snd.fst), .int .i64 (v11.snd.snd.snd.fst), .int .i64 (v11.snd.snd.snd.snd.fst), .int .i64 (v11.snd.snd.snd.snd.snd.fst), .int .i64 (v11.snd.snd.snd.snd.snd.snd.fst), .int .i64 (v11.snd.snd.snd.snd.snd.snd.snd), .sl (v12.fst) 51 (v12.snd.fst), .sl (v12.snd.snd.fst) 21 (v12.snd.snd.snd), .int .i64 (v13.fst), .int .i64 (v13.snd.fst), .int .i64 (a18), .int .i64 (a19), .int .i64 (v13.snd.snd), .int .i64 (a21), .int .i64 (0), .int .i64 (0)]), (1, .box 126 [.bool (a24), .bool (a25), .bool (a26), .bool (a27), .bool (a28), .bool (a29), .bool (a30), .bool (a31)]), (2, .box 50 [.int .i64 (0), .int .i64 (0), .int .i64 (0), .int .i64 (0), .int .i64 (0), .int .i64 (0), .int .i64 (0), .int .i64 (0), .int .i64 (0), .int .i64 (0), .int .i64 (0), .int .i64 (0), .nils, .nils, .int .i64 (0), .int .i64 (0), .int .i64 (0), .int .i64 (0), .int .i64 (0), .int .i64 (0), .int .i64 (0), .int .i64 (0)])], 3, [], []⟩) h (fun Q h => ?_) (fun v13 h => ?_)
            · conv => whnf
              refine XSplit.mk (fun e => ?_) (fun e => ?_)
              · replace h := XSplit.t h e
                conv => whnf
                refine ⟨_, Weak.a ?_, h⟩; (conv => whnf); exact ⟨rfl, rfl, rfl, rfl, rfl⟩
              · replace h := XSplit.f h e
                conv => whnf
                refine ⟨_, Weak.a ?_, h⟩; (conv => whnf); exact ⟨rfl, rfl, rfl, rfl, rfl⟩
            · conv => whnf
              refine ASeq.joinW tab_ok mixed_ (fun v14 => ⟨[(2, .ptr 0 0), (3, .ptr 1 0), (4, .ptr 2 0)], [(0, .box 50 [.int .i64 (0), .int .i64 (0), .int .i64 (v8), .int .i64 (v9), .int .i64 (v11.fst), .int .i64 (v11.snd.fst), .int .i64 (v11.snd.snd.fst), .int .i64 (v11.snd.snd.snd.fst), .int .i64 (v11.snd.snd.snd.snd.fst), .int .i64 (v11.snd.snd.snd.snd.snd.fst), .int .i64 (v11.snd.snd.snd.snd.snd.snd.fst), .int .i64 (v11.snd.snd.snd.snd.snd.snd.snd), .sl (v12.fst) 51 (v12.snd.fst), .sl (v12.snd.snd.fst) 21 (v12.snd.snd.snd), .int .i64 (v13.fst), .int .i64 (v13.snd.fst), .int .i64 (v14.fst), .int .i64 (v14.snd), .int .i64 (v13.snd.snd), .int .i64 (a21), .int .i64 (0), .int .i64 (0)]), (1, .box 126 [.bool (a24), .bool (a25), .bool (a26), .bool (a27), .bool (a28), .bool (a29), .bool (a30), .bool (a31)]), (2, .box 50 [.int .i64 (0), .int .i64 (0), .int .i64 (0), .int .i64 (0), .int .i64 (0), .int .i64 (0), .int .i64 (0), .int .i64 (0), .int .i64 (0), .int .i64 (0), .int .i64 (0), .int .i64 (0), .nils, .nils, .int .i64 (0), .int .i64 (0), .int .i64 (0), .int .i64 (0), .int .i64 (0), .int .i64 (0), .int .i64 (0), .int .i64 (0)])], 3, [], []⟩) h (fun Q h => ?_) (fun v14 h => ?_)
              · conv => whnf
                refine XSplit.mk (fun e => ?_) (fun e => ?_)
                · replace h := XSplit.t h e
                  conv => whnf
                  refine ⟨_, Weak.a ?_, h⟩; (conv => whnf); exact ⟨rfl, rfl, rfl, rfl, rfl⟩
                · replace h := XSplit.f h e
                  conv => whnf
                  refine ⟨_, Weak.a ?_, h⟩; (conv => whnf); exact ⟨rfl, rfl, rfl, rfl, rfl⟩
              · conv => whnf
                refine ASeq.joinW tab_ok mixed_ (fun v15 => ⟨[(2, .ptr 0 0), (4, .ptr 1 0)], [(0, .box 50 [.int .i64 (0), .int .i64 (0), .int .i64 (v8), .int .i64 (v9), .int .i64 (v11.fst), .int .i64 (v11.snd.fst), .int .i64 (v11.snd.snd.fst), .int .i64 (v11.snd.snd.snd.fst), .int .i64 (v11.snd.snd.snd.snd.fst), .int .i64 (v11.snd.snd.snd.snd.snd.fst), .int .i64 (v11.snd.snd.snd.snd.snd.snd.fst), .int .i64 (v11.snd.snd.snd.snd.snd.snd.snd), .sl (v12.fst) 51 (v12.snd.fst), .sl (v12.snd.snd.fst) 21 (v12.snd.snd.snd), .int .i64 (v13.fst), .int .i64 (v13.snd.fst), .int .i64 (v14.fst), .int .i64 (v14.snd), .int .i64 (v13.snd.snd), .int .i64 (v15), .int .i64 (0), .int .i64 (0)]), (1, .box 50 [.int .i64 (0), .int .i64 (0), .int .i64 (0), .int .i64 (0), .int .i64 (0), .int .i64 (0), .int .i64 (0), .int .i64 (0), .int .i64 (0), .int .i64 (0), .int .i64 (0), .int .i64 (0), .nils, .nils, .int .i64 (0), .int .i64 (0), .int .i64 (0), .int .i64 (0), .int .i64 (0), .int .i64 (0), .int .i64 (0), .int .i64 (0)])], 2, [], []⟩) h (fun Q h => ?_) (fun v15 h => ?_)
                · conv => whnf
                  refine XSplit.mk (fun e => ?_) (fun e => ?_)
                  · replace h := XSplit.t h e
                    conv => whnf
                    refine ⟨_, Weak.a ?_, h⟩; (conv => whnf); exact ⟨rfl, rfl, rfl, rfl, rfl⟩
                  · replace h := XSplit.f h e
                    conv => whnf
                    refine ⟨_, Weak.a ?_, h⟩; (conv => whnf); exact ⟨rfl, rfl, rfl, rfl, rfl⟩
                · conv => whnf
                  refine ⟨_, Weak.a ?_, ?_, h⟩; (conv => whnf); exact ⟨rfl, rfl, rfl, rfl, rfl⟩; exact rfl

theorem c_model_empty {a0 : Int} {a1 : Int} {a2 : Int} {a3 : Int} {a4 : Int} {a5 : Int} {a6 : Int} {a7 : Int} {a8 : Int} {a9 : Int} {a10 : Int} {a11 : Int} {a12 : Bool} {a13 : Rws} {a14 : Bool} {a15 : Rws} {a16 : Int} {a17 : Int} {a18 : Int} {a19 : Int} {a20 : Int} {a21 : Int} {a22 : Int} {a23 : Int} {Q : Bool → Prop} {R : AV → List AB → Prop} (h : (g_model_empty a0 a1 a2 a3 a4 a5 a6 a7 a8 a9 a10 a11 a12 a13 a14 a15 a16 a17 a18 a19 a20 a21 a22 a23).run Q) (k : ∀ r, Q r → R (.bool (r)) ([])) : ACalls Try.prog tab 79 [.agg [.int .i64 (a0), .int .i64 (a1), .int .i64 (a2), .int .i64 (a3), .int .i64 (a4), .int .i64 (a5), .int .i64 (a6), .int .i64 (a7), .int .i64 (a8), .int .i64 (a9), .int .i64 (a10), .int .i64 (a11), .sl (a12) 51 (a13), .sl (a14) 21 (a15), .int .i64 (a16), .int .i64 (a17), .int .i64 (a18), .int .i64 (a19), .int .i64 (a20), .int .i64 (a21), .int .i64 (a22), .int .i64 (a23)]] [] R := by
  refine ACalls.out (fun r => .bool (r)) (fun r => []) (Q := Q) (ACalls.introX (mv := mv) tab_ok mixed_ (fn := Try.f79) (by kernel_rfl) rfl (by kernel_rfl) (by kernel_rfl) (Nat.le_of_ble_eq_true rfl) ?_) (fun v => by first | exact ⟨rfl, Nat.le_of_ble_eq_true rfl⟩ | (cases v <;> exact ⟨rfl, Nat.le_of_ble_eq_true rfl⟩)) k
  conv => whnf
  refine ⟨_, Weak.a ?_, ?_, h⟩; (conv => whnf); exact ⟨rfl, rfl, rfl, rfl, rfl⟩; exact rfl

theorem c_window_within {a0 : Int} {a1 : Int} {a2 : Int} {Q : Bool → Prop} {R : AV → List AB → Prop} (h : (g_window_within a0 a1 a2).run Q) (k : ∀ r, Q r → R (.bool (r)) ([])) : ACalls Try.prog tab 103 [.int .i64 (a0), .int .i64 (a1), .int .i64 (a2)] [] R := by
  refine ACalls.out (fun r => .bool (r)) (fun r => []) (Q := Q) (ACalls.introX (mv := mv) tab_ok mixed_ (fn := Try.f103) (by kernel_rfl) rfl (by kernel_rfl) (by kernel_rfl) (Nat.le_of_ble_eq_true rfl) ?_) (fun v => by first | exact ⟨rfl, Nat.le_of_ble_eq_true rfl⟩ | (cases v <;> exact ⟨rfl, Nat.le_of_ble_eq_true rfl⟩)) k
  conv => whnf
  refine ⟨_, Weak.a ?_, ?_, h⟩; (conv => whnf); exact ⟨rfl, rfl, rfl, rfl, rfl⟩; exact rfl

theorem c_window_side {a0 : Int} {a1 : Int} {a2 : Int} {a3 : Int} {Q : Bool → Prop} {R : AV → List AB → Prop} (h : (g_window_side a0 a1 a2 a3).run Q) (k : ∀ r, Q r → R (.bool (r)) ([])) : ACalls Try.prog tab 101 [.int .i64 (a0), .int .i64 (a1), .int .i64 (a2), .int .i64 (a3)] [] R := by
  refine ACalls.out (fun r => .bool (r)) (fun r => []) (Q := Q) (ACalls.introX (mv := mv) tab_ok mixed_ (fn := Try.f101) (by kernel_rfl) rfl (by kernel_rfl) (by kernel_rfl) (Nat.le_of_ble_eq_true rfl) ?_) (fun v => by first | exact ⟨rfl, Nat.le_of_ble_eq_true rfl⟩ | (cases v <;> exact ⟨rfl, Nat.le_of_ble_eq_true rfl⟩)) k
  conv => whnf
  refine ASeq.joinW tab_ok mixed_ (fun v5 => ⟨[(8, .bool (v5))], [], 0, [], []⟩) h (fun Q h => ?_) (fun v5 h => ?_)
  · conv => whnf
    refine ACalls.inn (c_window_within (W.bindE h) (fun v6 h => ?_)) ⟨rfl, rfl⟩
    conv => whnf
    refine XSplit.mk (fun e => ?_) (fun e => ?_)
    · replace h := XSplit.t h e
      conv => whnf
      refine ACalls.inn (c_window_within (W.bindE h) (fun v7 h => ?_)) ⟨rfl, rfl⟩
      conv => whnf
      refine XSplit.mk (fun e => ?_) (fun e => ?_)
      · replace h := XSplit.t h e
        conv => whnf
        refine ACalls.inn (c_window_within (W.bindE h) (fun v8 h => ?_)) ⟨rfl, rfl⟩
        conv => whnf
        refine XSplit.mk (fun e => ?_) (fun e => ?_)
        · replace h := XSplit.t h e
          conv => whnf
          refine ACalls.inn (c_window_within (W.bindE h) (fun v9 h => ?_)) ⟨rfl, rfl⟩
          conv => whnf
          refine ⟨_, Weak.a ?_, h⟩; (conv => whnf); exact ⟨rfl, rfl, rfl, rfl, rfl⟩
        · replace h := XSplit.f h e
          conv => whnf
          refine ⟨_, Weak.a ?_, h⟩; (conv => whnf); exact ⟨rfl, rfl, rfl, rfl, rfl⟩
      · replace h := XSplit.f h e
        conv => whnf
        refine ⟨_, Weak.a ?_, h⟩; (conv => whnf); exact ⟨rfl, rfl, rfl, rfl, rfl⟩
    · replace h := XSplit.f h e
      conv => whnf
      refine ⟨_, Weak.a ?_, h⟩; (conv => whnf); exact ⟨rfl, rfl, rfl, rfl, rfl⟩
  · conv => whnf
    refine ⟨_, Weak.a ?_, ?_, h⟩; (conv => whnf); exact ⟨rfl, rfl, rfl, rfl, rfl⟩; exact rfl

theorem c_window_Valid {a0 : Int} {a1 : Int} {a2 : Int} {a3 : Int} {a4 : Int} {a5 : Int} {a6 : Int} {a7 : Int} {Q : Bool → Prop} {R : AV → List AB → Prop} (h : (g_window_Valid a0 a1 a2 a3 a4 a5 a6 a7).run Q) (k : ∀ r, Q r → R (.bool (r)) ([])) : ACalls Try.prog tab 98 [.agg [.int .i64 (a0), .int .i64 (a1), .int .i64 (a2), .int .i64 (a3), .int .i64 (a4), .int .i64 (a5), .int .i64 (a6), .int .i64 (a7)]] [] R := by
  refine ACalls.out (fun r => .bool (r)) (fun r => []) (Q := Q) (ACalls.introX (mv := mv) tab_ok mixed_ (fn := Try.f98) (by kernel_rfl) rfl (by kernel_rfl) (by kernel_rfl) (Nat.le_of_ble_eq_true rfl) ?_) (fun v => by first | exact ⟨rfl, Nat.le_of_ble_eq_true rfl⟩ | (cases v <;> exact ⟨rfl, Nat.le_of_ble_eq_true rfl⟩)) k
  conv => whnf
  refine ASeq.joinW tab_ok mixed_ (fun v3 => ⟨[(2, .bool (v3))], [], 0, [], []⟩) h (fun Q h => ?_) (fun v3 h => ?_)
  · conv => whnf
    refine ACalls.inn (c_window_side (W.bindE h) (fun v4 h => ?_)) ⟨rfl, rfl⟩
    conv => whnf
    refine XSplit.mk (fun e => ?_) (fun e => ?_)
    · replace h := XSplit.t h e
      conv => whnf
      refine ACalls.inn (c_window_side (W.bindE h) (fun v5 h => ?_)) ⟨rfl, rfl⟩
      conv => whnf
      refine ⟨_, Weak.a ?_, h⟩; (conv => whnf); exact ⟨rfl, rfl, rfl, rfl, rfl⟩
    · replace h := XSplit.f h e
      conv => whnf
      refine ⟨_, Weak.a ?_, h⟩; (conv => whnf); exact ⟨rfl, rfl, rfl, rfl, rfl⟩
  · conv => whnf
    refine ⟨_, Weak.a ?_, ?_, h⟩; (conv => whnf); exact ⟨rfl, rfl, rfl, rfl, rfl⟩; exact rfl

theorem c_window_Out {a0 : Int} {a1 : Int} {a2 : Int} {a3 : Int} {a4 : Int} {a5 : Int} {a6 : Int} {a7 : Int} {a8 : Int} {a9 : Int} {a10 : Int} {Q : Int × Int × Int → Prop} {R : AV → List AB → Prop} (h : (g_window_Out a0 a1 a2 a3 a4 a5 a6 a7 a8 a9 a10).run Q) (k : ∀ r, Q r → R (.tup [.int .i64 (r.fst), .int .i64 (r.snd.fst), .int .i64 (r.snd.snd)]) ([])) : ACalls Try.prog tab 93 [.agg [.int .i64 (a0), .int .i64 (a1), .int .i64 (a2)], .agg [.int .i64 (a3), .int .i64 (a4), .int .i64 (a5), .int .i64 (a6), .int .i64 (a7), .int .i64 (a8), .int .i64 (a9), .int .i64 (a10)]] [] R := by
  refine ACalls.out (fun r => .tup [.int .i64 (r.fst), .int .i64 (r.snd.fst), .int .i64 (r.snd.snd)]) (fun r => []) (Q := Q) (ACalls.introX (mv := mv) tab_ok mixed_ (fn := Try.f93) (by kernel_rfl) rfl (by kernel_rfl) (by kernel_rfl) (Nat.le_of_ble_eq_true rfl) ?_) (fun v => by first | exact ⟨rfl, Nat.le_of_ble_eq_true rfl⟩ | (cases v <;> exact ⟨rfl, Nat.le_of_ble_eq_true rfl⟩)) k
  conv => whnf
  refine ASeq.go tab_ok mixed_ ?_
  conv => whnf
  refine ACalls.inn (c_shape_Elems (W.bindE h) (fun v2 h => ?_)) ⟨rfl, rfl⟩
  conv => whnf
  refine XSplit.mk (fun e => ?_) (fun e => ?_)
  · replace h := XSplit.t h e
    conv => whnf
    refine ⟨_, Weak.a ?_, ?_, h⟩; (conv => whnf); exact ⟨rfl, rfl, rfl, rfl, rfl⟩; exact rfl
  · replace h := XSplit.f h e
    conv => whnf
    refine ASeq.go tab_ok mixed_ ?_
    conv => whnf
    refine ACalls.inn (c_window_Valid (W.bindE h) (fun v3 h => ?_)) ⟨rfl, rfl⟩
    conv => whnf
    refine XSplit.mk (fun e => ?_) (fun e => ?_)
    · replace h := XSplit.t h e
      conv => whnf
      refine ⟨_, Weak.a ?_, ?_, h⟩; (conv => whnf); exact ⟨rfl, rfl, rfl, rfl, rfl⟩; exact rfl
    · replace h := XSplit.f h e
      conv => whnf
      refine XDraw.q [0, 1, 2, 3, 4, 5, 6, 7, 8, 9, 10, 11, 12, 13, 14, 15, 16, 17, 18, 19, 20, 21, 22, 23] (by decide +kernel) ?_
      conv => whnf
      refine ASeq.go tab_ok mixed_ ?_
      conv => whnf
      refine XSplit.mk (fun e => ?_) (fun e => ?_)
      · replace h := XSplit.t h e
        conv => whnf
        refine ⟨_, Weak.a ?_, ?_, h⟩; (conv => whnf); exact ⟨rfl, rfl, rfl, rfl, rfl⟩; exact rfl
      · replace h := XSplit.f h e
        conv => whnf
        refine XDraw.q [0, 1, 2, 3, 4, 5, 6, 7, 8, 9, 10, 11, 12] (by decide +kernel) ?_
        conv => whnf
        refine XNeed.mk (XNeed.c h) ?_; replace h := XNeed.x h
        conv => whnf
        refine XNeed.mk (XNeed.c h) ?_; replace h := XNeed.x h
        conv => whnf
        refine ⟨_, Weak.a ?_, ?_, h⟩; (conv => whnf); exact ⟨rfl, rfl, rfl, rfl, rfl⟩; exact rfl

theorem c_model_makes {a0 : Int} {a1 : Int} {a2 : Int} {a3 : Int} {a4 : Int} {a5 : Int} {a6 : Int} {a7 : Int} {a8 : Int} {a9 : Int} {a10 : Int} {a11 : Int} {a12 : Bool} {a13 : Rws} {a14 : Bool} {a15 : Rws} {a16 : Int} {a17 : Int} {a18 : Int} {a19 : Int} {a20 : Int} {a21 : Int} {a22 : Int} {a23 : Int} {a24 : Int} {a25 : Int} {a26 : Int} {Q : Int × Int × Int × Int × Int × Int → Prop} {R : AV → List AB → Prop} (h : (g_model_makes a0 a1 a2 a3 a4 a5 a6 a7 a8 a9 a10 a11 a12 a13 a14 a15 a16 a17 a18 a19 a20 a21 a22 a23 a24 a25 a26).run Q) (k : ∀ r, Q r → R (.tup [.agg [.int .i64 (r.fst), .int .i64 (r.snd.fst), .int .i64 (r.snd.snd.fst)], .int .i64 (r.snd.snd.snd.fst), .int .i64 (r.snd.snd.snd.snd.fst), .int .i64 (r.snd.snd.snd.snd.snd)]) ([])) : ACalls Try.prog tab 81 [.agg [.int .i64 (a0), .int .i64 (a1), .int .i64 (a2), .int .i64 (a3), .int .i64 (a4), .int .i64 (a5), .int .i64 (a6), .int .i64 (a7), .int .i64 (a8), .int .i64 (a9), .int .i64 (a10), .int .i64 (a11), .sl (a12) 51 (a13), .sl (a14) 21 (a15), .int .i64 (a16), .int .i64 (a17), .int .i64 (a18), .int .i64 (a19), .int .i64 (a20), .int .i64 (a21), .int .i64 (a22), .int .i64 (a23)], .agg [.int .i64 (a24), .int .i64 (a25), .int .i64 (a26)]] [] R := by
  refine ACalls.out (fun r => .tup [.agg [.int .i64 (r.fst), .int .i64 (r.snd.fst), .int .i64 (r.snd.snd.fst)], .int .i64 (r.snd.snd.snd.fst), .int .i64 (r.snd.snd.snd.snd.fst), .int .i64 (r.snd.snd.snd.snd.snd)]) (fun r => []) (Q := Q) (ACalls.introX (mv := mv) tab_ok mixed_ (fn := Try.f81) (by kernel_rfl) rfl (by kernel_rfl) (by kernel_rfl) (Nat.le_of_ble_eq_true rfl) ?_) (fun v => by first | exact ⟨rfl, Nat.le_of_ble_eq_true rfl⟩ | (cases v <;> exact ⟨rfl, Nat.le_of_ble_eq_true rfl⟩)) k
  conv => whnf
  refine ACalls.inn (c_model_of (W.bindE h) (fun v5 h => ?_)) ⟨rfl, rfl⟩
  conv => whnf
  refine ASeq.joinE tab_ok mixed_ (fun v6 => ⟨[(2, .ptr 0 0), (3, .ptr 1 0), (4, .ptr 2 0), (5, .int .i64 (0)), (6, .int .i64 (0)), (7, .int .i64 (0)), (10, .ptr 3 0), (11, .int .i64 (v6.fst))], [(0, .box 50 [.int .i64 (a0), .int .i64 (a1), .int .i64 (a2), .int .i64 (a3), .int .i64 (a4), .int .i64 (a5), .int .i64 (a6), .int .i64 (a7), .int .i64 (a8), .int .i64 (a9), .int .i64 (a10), .int .i64 (a11), .sl (a12) 51 (a13), .sl (a14) 21 (a15), .int .i64 (a16), .int .i64 (a17), .int .i64 (a18), .int .i64 (a19), .int .i64 (a20), .int .i64 (a21), .int .i64 (a22), .int .i64 (a23)]), (1, .box 23 [.int .i64 (a24), .int .i64 (a25), .int .i64 (a26)]), (2, .box 23 [.int .i64 (0), .int .i64 (0), .int .i64 (0)]), (3, .box 23 [.int .i64 (v6.snd.fst), .int .i64 (v6.snd.snd), .int .i64 (a26)])], 4, [], []⟩) h (fun Q h => ?_) (fun v6 h => ?_)
  · conv => whnf
    refine XSplit.mk (fun e => ?_) (fun e => ?_)
    · replace h := XSplit.t h e
      conv => whnf
      refine ACalls.inn (c_window_Out (W.bindE h) (fun v7 h => ?_)) ⟨rfl, rfl⟩
      conv => whnf
      refine ASeq.go tab_ok mixed_ ?_
      conv => whnf
      refine XSplit.mk (fun e => ?_) (fun e => ?_)
      · replace h := XSplit.t h e
        conv => whnf
        refine ⟨_, Weak.a ?_, ?_, h⟩; (conv => whnf); exact ⟨rfl, rfl, rfl, rfl, rfl⟩; exact rfl
      · replace h := XSplit.f h e
        conv => whnf
        refine XDraw.d [0, 1, 2, 3, 4, 5, 6, 7, 8, 9, 10, 11, 12, 13] [[], [], [], [], [], [], [], [], [], [], [4], [], [4], []] (by decide +kernel) ?_
        conv => whnf
        refine ⟨_, Weak.a ?_, h⟩; (conv => whnf); exact ⟨rfl, rfl, rfl, rfl, rfl⟩
    · replace h := XSplit.f h e
      conv => whnf
      refine ⟨_, Weak.a ?_, h⟩; (conv => whnf); exact ⟨rfl, rfl, rfl, rfl, rfl⟩
  · conv => whnf
    refine ASeq.joinW tab_ok mixed_ (fun v8 => ⟨[(4, .ptr 0 0), (5, .int .i64 (0)), (6, .int .i64 (0)), (7, .int .i64 (0)), (10, .ptr 1 0), (11, .int .i64 (v8.fst)), (15, .int .i64 (v8.snd.fst))], [(0, .box 23 [.int .i64 (0), .int .i64 (0), .int .i64 (0)]), (1, .box 23 [.int .i64 (v8.snd.snd.fst), .int .i64 (v8.snd.snd.snd.fst), .int .i64 (v8.snd.snd.snd.snd)])], 2, [], []⟩) h (fun Q h => ?_) (fun v8 h => ?_)
    · conv => whnf
      refine XSplit.mk (fun e => ?_) (fun e => ?_)
      · replace h := XSplit.t h e
        conv => whnf
        refine XDraw.d [0, 1, 2, 3, 4, 5, 6, 7, 8, 9, 10, 11, 12] [[], [], [], [], [], [], [], [], [], [], [], [], [3]] (by decide +kernel) ?_
        conv => whnf
        refine ⟨_, Weak.a ?_, h⟩; (conv => whnf); exact ⟨rfl, rfl, rfl, rfl, rfl⟩
      · replace h := XSplit.f h e
        conv => whnf
        refine XSplit.mk (fun e => ?_) (fun e => ?_)
        · replace h := XSplit.t h e
          conv => whnf
          refine XDraw.d [0, 1, 2, 3, 4, 5] [[], [], [], [], [], [3]] (by decide +kernel) ?_
          conv => whnf
          refine ⟨_, Weak.a ?_, h⟩; (conv => whnf); exact ⟨rfl, rfl, rfl, rfl, rfl⟩
        · replace h := XSplit.f h e
          conv => whnf
          refine ASeq.joinW tab_ok mixed_ (fun v9 => ⟨[(4, .ptr 0 0), (5, .int .i64 (0)), (6, .int .i64 (0)), (7, .int .i64 (0)), (10, .ptr 1 0), (11, .int .i64 (v6.fst)), (15, .int .i64 (0)), (74, .bool (v9))], [(0, .box 23 [.int .i64 (0), .int .i64 (0), .int .i64 (0)]), (1, .box 23 [.int .i64 (v6.snd.fst), .int .i64 (v6.snd.snd), .int .i64 (a26)])], 2, [], []⟩) h (fun Q h => ?_) (fun v9 h => ?_)
          · conv => whnf
            refine XSplit.mk (fun e => ?_) (fun e => ?_)
            · replace h := XSplit.t h e
              conv => whnf
              refine ⟨_, Weak.a ?_, h⟩; (conv => whnf); exact ⟨rfl, rfl, rfl, rfl, rfl⟩
            · replace h := XSplit.f h e
              conv => whnf
              refine ⟨_, Weak.a ?_, h⟩; (conv => whnf); exact ⟨rfl, rfl, rfl, rfl, rfl⟩
          · conv => whnf
            refine XSplit.mk (fun e => ?_) (fun e => ?_)
            · replace h := XSplit.t h e
              conv => whnf
              refine ⟨_, Weak.a ?_, h⟩; (conv => whnf); exact ⟨rfl, rfl, rfl, rfl, rfl⟩
            · replace h := XSplit.f h e
              conv => whnf
              refine ⟨_, Weak.a ?_, h⟩; (conv => whnf); exact ⟨rfl, rfl, rfl, rfl, rfl⟩
    · conv => whnf
      refine XDraw.d [0, 1, 2, 3, 4, 5, 6, 7, 8, 9, 10, 11, 12, 13, 14, 15] [[], [], [], [], [], [], [], [], [], [], [], [], [0], [], [], []] (by decide +kernel) ?_
      conv => whnf
      refine ⟨_, Weak.a ?_, ?_, h⟩; (conv => whnf); exact ⟨rfl, rfl, rfl, rfl, rfl⟩; exact rfl

theorem c_fixq_Valid {a0 : Int} {a1 : Int} {Q : Bool → Prop} {R : AV → List AB → Prop} (h : (g_fixq_Valid a0 a1).run Q) (k : ∀ r, Q r → R (.bool (r)) ([])) : ACalls Try.prog tab 82 [.agg [.int .i64 (a0), .int .i64 (a1)]] [] R := by
  refine ACalls.out (fun r => .bool (r)) (fun r => []) (Q := Q) (ACalls.introX (mv := mv) tab_ok mixed_ (fn := Try.f82) (by kernel_rfl) rfl (by kernel_rfl) (by kernel_rfl) (Nat.le_of_ble_eq_true rfl) ?_) (fun v => by first | exact ⟨rfl, Nat.le_of_ble_eq_true rfl⟩ | (cases v <;> exact ⟨rfl, Nat.le_of_ble_eq_true rfl⟩)) k
  conv => whnf
  refine ⟨_, Weak.a ?_, ?_, h⟩; (conv => whnf); exact ⟨rfl, rfl, rfl, rfl, rfl⟩; exact rfl

theorem c_model_op {a0 : Int} {a1 : Int} {a2 : Int} {a3 : Int} {a4 : Int} {a5 : Int} {a6 : Int} {a7 : Int} {a8 : Int} {a9 : Int} {a10 : Int} {a11 : Int} {a12 : Bool} {a13 : Rws} {a14 : Bool} {a15 : Rws} {a16 : Int} {a17 : Int} {a18 : Int} {a19 : Int} {a20 : Int} {a21 : Int} {a22 : Int} {a23 : Int} {a24 : Bool} {a25 : Rws} {Q : Int × Int × Int × Int × Int → Prop} {R : AV → List AB → Prop} (h : (g_model_op a0 a1 a2 a3 a4 a5 a6 a7 a8 a9 a10 a11 a12 a13 a14 a15 a16 a17 a18 a19 a20 a21 a22 a23 a24 a25).run Q) (k : ∀ r, Q r → R (.tup [.agg [.int .i64 (r.fst), .int .i64 (r.snd.fst), .int .i64 (r.snd.snd.fst)], .int .i64 (r.snd.snd.snd.fst), .int .i64 (r.snd.snd.snd.snd)]) ([])) : ACalls Try.prog tab 65 [.agg [.int .i64 (a0), .int .i64 (a1), .int .i64 (a2), .int .i64 (a3), .int .i64 (a4), .int .i64 (a5), .int .i64 (a6), .int .i64 (a7), .int .i64 (a8), .int .i64 (a9), .int .i64 (a10), .int .i64 (a11), .sl (a12) 51 (a13), .sl (a14) 21 (a15), .int .i64 (a16), .int .i64 (a17), .int .i64 (a18), .int .i64 (a19), .int .i64 (a20), .int .i64 (a21), .int .i64 (a22), .int .i64 (a23)], .sl (a24) 23 (a25)] [] R := by
  refine ACalls.out (fun r => .tup [.agg [.int .i64 (r.fst), .int .i64 (r.snd.fst), .int .i64 (r.snd.snd.fst)], .int .i64 (r.snd.snd.snd.fst), .int .i64 (r.snd.snd.snd.snd)]) (fun r => []) (Q := Q) (ACalls.introX (mv := mv) tab_ok mixed_ (fn := Try.f65) (by kernel_rfl) rfl (by kernel_rfl) (by kernel_rfl) (Nat.le_of_ble_eq_true rfl) ?_) (fun v => by first | exact ⟨rfl, Nat.le_of_ble_eq_true rfl⟩ | (cases v <;> exact ⟨rfl, Nat.le_of_ble_eq_true rfl⟩)) k
  conv => whnf
  refine ACalls.inn (c_model_of (W.bindE h) (fun v11 h => ?_)) ⟨rfl, rfl⟩
  conv => whnf
  refine ASeq.go tab_ok mixed_ ?_
  conv => whnf
  refine XSplit.mk (fun e => ?_) (fun e => ?_)
  · replace h := XSplit.t h e
    conv => whnf
    refine ⟨_, Weak.a ?_, ?_, h⟩; (conv => whnf); exact ⟨rfl, rfl, rfl, rfl, rfl⟩; exact rfl
  · replace h := XSplit.f h e
    conv => whnf
    refine XSplit.mk (fun e => ?_) (fun e => ?_)
    · replace h := XSplit.t h e
      conv => whnf
      refine ⟨_, Weak.a ?_, ?_, h⟩; (conv => whnf); exact ⟨rfl, rfl, rfl, rfl, rfl⟩; exact rfl
    · replace h := XSplit.f h e
      conv => whnf
      refine ACalls.inn (c_model_bare (W.bindE h) (fun v12 h => ?_)) ⟨rfl, rfl⟩
      conv => whnf
      refine ACalls.inn (c_model_empty (W.bindE h) (fun v13 h => ?_)) ⟨rfl, rfl⟩
      conv => whnf
      refine XSplit.mk (fun e => ?_) (fun e => ?_)
      · replace h := XSplit.t h e
        conv => whnf
        refine ⟨_, Weak.a ?_, ?_, h⟩; (conv => whnf); exact ⟨rfl, rfl, rfl, rfl, rfl⟩; exact rfl
      · replace h := XSplit.f h e
        conv => whnf
        refine XSplit.mk (fun e => ?_) (fun e => ?_)
        · replace h := XSplit.t h e
          conv => whnf
          refine ⟨_, Weak.a ?_, ?_, h⟩; (conv => whnf); exact ⟨rfl, rfl, rfl, rfl, rfl⟩; exact rfl
        · replace h := XSplit.f h e
          conv => whnf
          refine XNeed.mk (XNeed.c h) ?_; replace h := XNeed.x h
          conv => whnf
          refine ACalls.inn (c_model_makes (W.bindE h) (fun v14 h => ?_)) ⟨rfl, rfl⟩
          conv => whnf
          refine ASeq.go tab_ok mixed_ ?_
          conv => whnf
          refine XSplit.mk (fun e => ?_) (fun e => ?_)
          · replace h := XSplit.t h e
            conv => whnf
            refine ⟨_, Weak.a ?_, ?_, h⟩; (conv => whnf); exact ⟨rfl, rfl, rfl, rfl, rfl⟩; exact rfl
          · replace h := XSplit.f h e
            conv => whnf
            refine ASeq.go tab_ok mixed_ ?_
            conv => whnf
            refine ACalls.inn (c_shape_Elems (W.bindE h) (fun v15 h => ?_)) ⟨rfl, rfl⟩
            conv => whnf
            refine XDraw.q [0, 1, 2, 3, 4, 5, 6, 7, 8, 9, 10, 11, 12, 13, 14] (by decide +kernel) ?_
            conv => whnf
            refine XNeed.mk (XNeed.c h) ?_; replace h := XNeed.x h
            conv => whnf
            refine XSplit.mk (fun e => ?_) (fun e => ?_)
            · replace h := XSplit.t h e
              conv => whnf
              refine ⟨_, Weak.a ?_, ?_, h⟩; (conv => whnf); exact ⟨rfl, rfl, rfl, rfl, rfl⟩; exact rfl
            · replace h := XSplit.f h e
              conv => whnf
              refine ASeq.joinW tab_ok mixed_ (fun v16 => ⟨[(2, .ptr 0 0), (4, .ptr 1 0), (5, .int .i64 (0)), (6, .int .i64 (0)), (7, .ptr 2 0), (8, .ptr 3 0), (11, .ptr 4 0), (12, .int .i64 (v14.snd.snd.snd.fst)), (13, .int .i64 (v14.snd.snd.snd.snd.fst)), (17, .int .i64 (v16))], [(0, .box 50 [.int .i64 (a0), .int .i64 (a1), .int .i64 (a2), .int .i64 (a3), .int .i64 (a4), .int .i64 (a5), .int .i64 (a6), .int .i64 (a7), .int .i64 (a8), .int .i64 (a9), .int .i64 (a10), .int .i64 (a11), .sl (a12) 51 (a13), .sl (a14) 21 (a15), .int .i64 (a16), .int .i64 (a17), .int .i64 (a18), .int .i64 (a19), .int .i64 (a20), .int .i64 (a21), .int .i64 (a22), .int .i64 (a23)]), (1, .box 23 [.int .i64 (0), .int .i64 (0), .int .i64 (0)]), (2, .box 23 [.int .i64 (0), .int .i64 (0), .int .i64 (0)]), (3, .box 126 [.bool (v11.fst), .bool (v11.snd.fst), .bool (v11.snd.snd.fst), .bool (v11.snd.snd.snd.fst), .bool (v11.snd.snd.snd.snd.fst), .bool (v11.snd.snd.snd.snd.snd.fst), .bool (v11.snd.snd.snd.snd.snd.snd.fst), .bool (v11.snd.snd.snd.snd.snd.snd.snd.fst)]), (4, .box 23 [.int .i64 (v14.fst), .int .i64 (v14.snd.fst), .int .i64 (v14.snd.snd.fst)])], 5, [], []⟩) h (fun Q h => ?_) (fun v16 h => ?_)
              · conv => whnf
                refine XSplit.mk (fun e => ?_) (fun e => ?_)
                · replace h := XSplit.t h e
                  conv => whnf
                  refine ⟨_, Weak.a ?_, h⟩; (conv => whnf); exact ⟨rfl, rfl, rfl, rfl, rfl⟩
                · replace h := XSplit.f h e
                  conv => whnf
                  refine ⟨_, Weak.a ?_, h⟩; (conv => whnf); exact ⟨rfl, rfl, rfl, rfl, rfl⟩
              · conv => whnf
                refine ASeq.go tab_ok mixed_ ?_
                conv => whnf
                refine XSplit.mk (fun e => ?_) (fun e => ?_)
                · replace h := XSplit.t h e
                  conv => whnf
                  refine ⟨_, Weak.a ?_, ?_, h⟩; (conv => whnf); exact ⟨rfl, rfl, rfl, rfl, rfl⟩; exact rfl
                · replace h := XSplit.f h e
                  conv => whnf
                  refine XSplit.mk (fun e => ?_) (fun e => ?_)
                  · replace h := XSplit.t h e
                    conv => whnf
                    refine ⟨_, Weak.a ?_, ?_, h⟩; (conv => whnf); exact ⟨rfl, rfl, rfl, rfl, rfl⟩; exact rfl
                  · replace h := XSplit.f h e
                    conv => whnf
                    refine ASeq.joinW tab_ok mixed_ (fun v17 => ⟨[(2, .ptr 0 0), (4, .ptr 1 0), (5, .int .i64 (0)), (6, .int .i64 (0)), (7, .ptr 2 0), (11, .ptr 3 0), (13, .int .i64 (v14.snd.snd.snd.snd.fst)), (140, .bool (v17))], [(0, .box 50 [.int .i64 (a0), .int .i64 (a1), .int .i64 (a2), .int .i64 (a3), .int .i64 (a4), .int .i64 (a5), .int .i64 (a6), .int .i64 (a7), .int .i64 (a8), .int .i64 (a9), .int .i64 (a10), .int .i64 (a11), .sl (a12) 51 (a13), .sl (a14) 21 (a15), .int .i64 (a16), .int .i64 (a17), .int .i64 (a18), .int .i64 (a19), .int .i64 (a20), .int .i64 (a21), .int .i64 (a22), .int .i64 (a23)]), (1, .box 23 [.int .i64 (0), .int .i64 (0), .int .i64 (0)]), (2, .box 23 [.int .i64 (0), .int .i64 (0), .int .i64 (0)]), (3, .box 23 [.int .i64 (v14.fst), .int .i64 (v14.snd.fst), .int .i64 (v14.snd.snd.fst)])], 4, [], []⟩) h (fun Q h => ?_) (fun v17 h => ?_)
                    · conv => whnf
                      refine XSplit.mk (fun e => ?_) (fun e => ?_)
                      · replace h := XSplit.t h e
                        conv => whnf
                        refine ACalls.inn (c_fixq_Valid (W.bindE h) (fun v18 h => ?_)) ⟨rfl, rfl⟩
                        conv => whnf
                        refine XSplit.mk (fun e => ?_) (fun e => ?_)
                        · replace h := XSplit.t h e
                          conv => whnf
                          refine ⟨_, Weak.a ?_, h⟩; (conv => whnf); exact ⟨rfl, rfl, rfl, rfl, rfl⟩
                        · replace h := XSplit.f h e
                          conv => whnf
                          refine XSplit.mk (fun e => ?_) (fun e => ?_)
                          · replace h := XSplit.t h e
                            conv => whnf
                            refine ACalls.inn (c_fixq_Valid (W.bindE h) (fun v19 h => ?_)) ⟨rfl, rfl⟩
                            conv => whnf
                            refine ⟨_, Weak.a ?_, h⟩; (conv => whnf); exact ⟨rfl, rfl, rfl, rfl, rfl⟩
                          · replace h := XSplit.f h e
                            conv => whnf
                            refine ⟨_, Weak.a ?_, h⟩; (conv => whnf); exact ⟨rfl, rfl, rfl, rfl, rfl⟩
                      · replace h := XSplit.f h e
                        conv => whnf
                        refine XSplit.mk (fun e => ?_) (fun e => ?_)
                        · replace h := XSplit.t h e
                          conv => whnf
                          refine ACalls.inn (c_fixq_Valid (W.bindE h) (fun v20 h => ?_)) ⟨rfl, rfl⟩
                          conv => whnf
                          refine ⟨_, Weak.a ?_, h⟩; (conv => whnf); exact ⟨rfl, rfl, rfl, rfl, rfl⟩
                        · replace h := XSplit.f h e
                          conv => whnf
                          refine ⟨_, Weak.a ?_, h⟩; (conv => whnf); exact ⟨rfl, rfl, rfl, rfl, rfl⟩
                    · conv => whnf
                      refine XSplit.mk (fun e => ?_) (fun e => ?_)
                      · replace h := XSplit.t h e
                        conv => whnf
                        refine ⟨_, Weak.a ?_, ?_, h⟩; (conv => whnf); exact ⟨rfl, rfl, rfl, rfl, rfl⟩; exact rfl
                      · replace h := XSplit.f h e
                        conv => whnf
                        refine ACalls.inn (c_model_byte8 (W.bindE h) (fun v21 h => ?_)) ⟨rfl, rfl⟩
                        conv => whnf
                        refine XSplit.mk (fun e => ?_) (fun e => ?_)
                        · replace h := XSplit.t h e
                          conv => whnf
                          refine ⟨_, Weak.a ?_, ?_, h⟩; (conv => whnf); exact ⟨rfl, rfl, rfl, rfl, rfl⟩; exact rfl
                        · replace h := XSplit.f h e
                          conv => whnf
                          refine ⟨_, Weak.a ?_, ?_, h⟩; (conv => whnf); exact ⟨rfl, rfl, rfl, rfl, rfl⟩; exact rfl
end Go.Proofs.Ytpoakneeceaooaa.V09

set_option linter.unusedVariables false
set_option maxRecDepth 100000
set_option maxHeartbeats 0
namespace Go.Proofs.Ytpoakneeceaooaa.V09
open Go.Proofs Go.Proofs.Ytpoakneeceaooaa.VX
theorem c_model_whole {a0 : Int} {a1 : Int} {a2 : Int} {a3 : Int} {a4 : Int} {a5 : Bool} {a6 : Rws} {a7 : Int} {Q : Int × Int × Int × Int × Bool × Rws → Prop} {R : AV → List AB → Prop} (h : (g_model_whole a0 a1 a2 a3 a4 a5 a6 a7).run Q) (k : ∀ r, Q r → R (.tup [.own 0, .int .i64 (r.fst), .agg [.int .i64 (r.snd.fst), .int .i64 (r.snd.snd.fst), .int .i64 (r.snd.snd.snd.fst)]]) ([.arr true 23 (r.snd.snd.snd.snd.fst) (r.snd.snd.snd.snd.snd)])) : ACalls Try.prog tab 45 [.agg [.int .i64 (a0), .int .i64 (a1), .int .i64 (a2), .int .i64 (a3), .int .i64 (a4), .sl (a5) 50 (a6), .int .i64 (a7)]] [] R := by
  refine ACalls.out (fun r => .tup [.own 0, .int .i64 (r.fst), .agg [.int .i64 (r.snd.fst), .int .i64 (r.snd.snd.fst), .int .i64 (r.snd.snd.snd.fst)]]) (fun r => [.arr true 23 (r.snd.snd.snd.snd.fst) (r.snd.snd.snd.snd.snd)]) (Q := Q) (ACalls.introX (mv := mv) tab_ok mixed_ (fn := Try.f45) (by kernel_rfl) rfl (by kernel_rfl) (by kernel_rfl) (Nat.le_of_ble_eq_true rfl) ?_) (fun v => by first | exact ⟨rfl, Nat.le_of_ble_eq_true rfl⟩ | (cases v <;> exact ⟨rfl, Nat.le_of_ble_eq_true rfl⟩)) k
  conv => whnf
  refine ACalls.inn (c_shape_Elems (W.bindE h) (fun v7 h => ?_)) ⟨rfl, rfl⟩
  conv => whnf
  refine ASeq.go tab_ok mixed_ ?_
  conv => whnf
  refine XSplit.mk (fun e => ?_) (fun e => ?_)
  · replace h := XSplit.t h e
    conv => whnf
    refine ⟨_, Weak.a ?_, ?_, h⟩; (conv => whnf); exact ⟨rfl, rfl, rfl, rfl, rfl⟩; exact rfl
  · replace h := XSplit.f h e
    conv => whnf
    refine ACalls.inn (c_model_byte8 (W.bindE h) (fun v8 h => ?_)) ⟨rfl, rfl⟩
    conv => whnf
    refine XSplit.mk (fun e => ?_) (fun e => ?_)
    · replace h := XSplit.t h e
      conv => whnf
      refine ⟨_, Weak.a ?_, ?_, h⟩; (conv => whnf); exact ⟨rfl, rfl, rfl, rfl, rfl⟩; exact rfl
    · replace h := XSplit.f h e
      conv => whnf
      refine XSplit.mk (fun e => ?_) (fun e => ?_)
      · replace h := XSplit.t h e
        conv => whnf
        refine ⟨_, Weak.a ?_, ?_, h⟩; (conv => whnf); exact ⟨rfl, rfl, rfl, rfl, rfl⟩; exact rfl
      · replace h := XSplit.f h e
        conv => whnf
        refine XSplit.mk (fun e => ?_) (fun e => ?_)
        · replace h := XSplit.t h e
          conv => whnf
          refine ⟨_, Weak.a ?_, ?_, h⟩; (conv => whnf); exact ⟨rfl, rfl, rfl, rfl, rfl⟩; exact rfl
        · replace h := XSplit.f h e
          conv => whnf
          refine ASeq.go tab_ok mixed_ ?_
          conv => whnf
          refine ALoop.ofW tab_ok mixed_ (fun v9 => ⟨[(2, .nils), (3, .int .i64 (0)), (4, .ptr 0 0), (7, .own 1), (8, .int .i64 (v9.fst)), (64, .sl (a5) 50 (a6)), (65, .int .i64 ((↑(List.length a6) : Int))), (66, .int .i64 (v9.snd.fst))], [(0, .box 31 [.int .i64 (0), .int .i64 (0), .int .i64 (0)]), (1, .arr true 23 (false) (v9.snd.snd))], 2, [], []⟩) (sx (fun v10 => (.ret, ⟨[(2, .nils), (3, .int .i64 (0)), (4, .ptr 0 0)], [(0, .box 31 [.int .i64 (v10.fst), .int .i64 (v10.snd), .int .i64 (0)])], 1, [], []⟩)) (fun v11 => (.exit 1, ⟨[(2, .nils), (3, .int .i64 (0)), (4, .ptr 0 0), (7, .own 1), (8, .int .i64 (v11.fst))], [(0, .box 31 [.int .i64 (0), .int .i64 (0), .int .i64 (0)]), (1, .arr true 23 (false) (v11.snd))], 2, [], []⟩))) (W.bindE h) (Weak.a ?_) (fun v9 J_ Q h => ?_) (fun v h => ?_)
          · conv => whnf
            exact ⟨rfl, rfl, rfl, rfl, rfl⟩
          · conv => whnf
            refine ASeq.go tab_ok mixed_ ?_
            conv => whnf
            refine XSplit.mk (fun e => ?_) (fun e => ?_)
            · replace h := XSplit.t h e
              conv => whnf
              refine ASeq.go tab_ok mixed_ ?_
              conv => whnf
              refine XNeed.mk (XNeed.c h) ?_; replace h := XNeed.x h
              conv => whnf
              refine ACalls.inn (c_model_op (W.bindE h) (fun v12 h => ?_)) ⟨rfl, rfl⟩
              conv => whnf
              refine ASeq.joinW tab_ok mixed_ (fun v13 => ⟨[(2, .nils), (3, .int .i64 (0)), (4, .ptr 0 0), (7, .own 1), (8, .int .i64 (IntKind.i64.wrap (v9.fst + v12.snd.snd.snd.fst))), (9, .int .i64 (v9.snd.fst)), (10, .ptr 2 0), (11, .ptr 3 0), (12, .int .i64 (v12.snd.snd.snd.fst)), (13, .int .i64 (v13)), (64, .sl (a5) 50 (a6)), (65, .int .i64 ((↑(List.length a6) : Int))), (66, .int .i64 (v9.snd.fst)), (67, .bool (decide (v9.snd.fst < (↑(List.length a6) : Int)))), (68, .int .i64 (v9.snd.fst)), (69, .rel 50 (a6) (v9.snd.fst.toNat) 0), (70, .agg [.int .i64 (ri a6 v9.snd.fst.toNat 0), .int .i64 (ri a6 v9.snd.fst.toNat 1), .int .i64 (ri a6 v9.snd.fst.toNat 2), .int .i64 (ri a6 v9.snd.fst.toNat 3), .int .i64 (ri a6 v9.snd.fst.toNat 4), .int .i64 (ri a6 v9.snd.fst.toNat 5), .int .i64 (ri a6 v9.snd.fst.toNat 6), .int .i64 (ri a6 v9.snd.fst.toNat 7), .int .i64 (ri a6 v9.snd.fst.toNat 8), .int .i64 (ri a6 v9.snd.fst.toNat 9), .int .i64 (ri a6 v9.snd.fst.toNat 10), .int .i64 (ri a6 v9.snd.fst.toNat 11), .sl (rn a6 v9.snd.fst.toNat 12) 51 (rr a6 v9.snd.fst.toNat 12), .sl (rn a6 v9.snd.fst.toNat 13) 21 (rr a6 v9.snd.fst.toNat 13), .int .i64 (ri a6 v9.snd.fst.toNat 14), .int .i64 (ri a6 v9.snd.fst.toNat 15), .int .i64 (ri a6 v9.snd.fst.toNat 16), .int .i64 (ri a6 v9.snd.fst.toNat 17), .int .i64 (ri a6 v9.snd.fst.toNat 18), .int .i64 (ri a6 v9.snd.fst.toNat 19), .int .i64 (ri a6 v9.snd.fst.toNat 20), .int .i64 (ri a6 v9.snd.fst.toNat 21)]), (71, .tup [.agg [.int .i64 (v12.fst), .int .i64 (v12.snd.fst), .int .i64 (v12.snd.snd.fst)], .int .i64 (v12.snd.snd.snd.fst), .int .i64 (v12.snd.snd.snd.snd)]), (72, .agg [.int .i64 (ri a6 v9.snd.fst.toNat 0), .int .i64 (ri a6 v9.snd.fst.toNat 1), .int .i64 (ri a6 v9.snd.fst.toNat 2), .int .i64 (ri a6 v9.snd.fst.toNat 3), .int .i64 (ri a6 v9.snd.fst.toNat 4), .int .i64 (ri a6 v9.snd.fst.toNat 5), .int .i64 (ri a6 v9.snd.fst.toNat 6), .int .i64 (ri a6 v9.snd.fst.toNat 7), .int .i64 (ri a6 v9.snd.fst.toNat 8), .int .i64 (ri a6 v9.snd.fst.toNat 9), .int .i64 (ri a6 v9.snd.fst.toNat 10), .int .i64 (ri a6 v9.snd.fst.toNat 11), .sl (rn a6 v9.snd.fst.toNat 12) 51 (rr a6 v9.snd.fst.toNat 12), .sl (rn a6 v9.snd.fst.toNat 13) 21 (rr a6 v9.snd.fst.toNat 13), .int .i64 (ri a6 v9.snd.fst.toNat 14), .int .i64 (ri a6 v9.snd.fst.toNat 15), .int .i64 (ri a6 v9.snd.fst.toNat 16), .int .i64 (ri a6 v9.snd.fst.toNat 17), .int .i64 (ri a6 v9.snd.fst.toNat 18), .int .i64 (ri a6 v9.snd.fst.toNat 19), .int .i64 (ri a6 v9.snd.fst.toNat 20), .int .i64 (ri a6 v9.snd.fst.toNat 21)]), (73, .own 1), (74, .tup [.agg [.int .i64 (v12.fst), .int .i64 (v12.snd.fst), .int .i64 (v12.snd.snd.fst)], .int .i64 (v12.snd.snd.snd.fst), .int .i64 (v12.snd.snd.snd.snd)]), (75, .agg [.int .i64 (v12.fst), .int .i64 (v12.snd.fst), .int .i64 (v12.snd.snd.fst)]), (76, .int .i64 (v12.snd.snd.snd.fst)), (77, .int .i64 (v12.snd.snd.snd.snd)), (78, .int .i64 (v9.fst)), (79, .int .i64 (v12.snd.snd.snd.fst)), (80, .int .i64 (IntKind.i64.wrap (v9.fst + v12.snd.snd.snd.fst))), (81, .int .i64 (v12.snd.snd.snd.snd)), (82, .bool (v12.snd.snd.snd.snd == 0)), (83, .bool (v12.snd.snd.snd.snd == 0)), (86, .bool (v12.snd.snd.snd.snd == 0 && decide (131072 < IntKind.i64.wrap (v9.fst + v12.snd.snd.snd.fst))))], [(0, .box 31 [.int .i64 (0), .int .i64 (0), .int .i64 (0)]), (1, .arr true 23 (false) (v9.snd.snd)), (2, .box 50 [.int .i64 (ri a6 v9.snd.fst.toNat 0), .int .i64 (ri a6 v9.snd.fst.toNat 1), .int .i64 (ri a6 v9.snd.fst.toNat 2), .int .i64 (ri a6 v9.snd.fst.toNat 3), .int .i64 (ri a6 v9.snd.fst.toNat 4), .int .i64 (ri a6 v9.snd.fst.toNat 5), .int .i64 (ri a6 v9.snd.fst.toNat 6), .int .i64 (ri a6 v9.snd.fst.toNat 7), .int .i64 (ri a6 v9.snd.fst.toNat 8), .int .i64 (ri a6 v9.snd.fst.toNat 9), .int .i64 (ri a6 v9.snd.fst.toNat 10), .int .i64 (ri a6 v9.snd.fst.toNat 11), .sl (rn a6 v9.snd.fst.toNat 12) 51 (rr a6 v9.snd.fst.toNat 12), .sl (rn a6 v9.snd.fst.toNat 13) 21 (rr a6 v9.snd.fst.toNat 13), .int .i64 (ri a6 v9.snd.fst.toNat 14), .int .i64 (ri a6 v9.snd.fst.toNat 15), .int .i64 (ri a6 v9.snd.fst.toNat 16), .int .i64 (ri a6 v9.snd.fst.toNat 17), .int .i64 (ri a6 v9.snd.fst.toNat 18), .int .i64 (ri a6 v9.snd.fst.toNat 19), .int .i64 (ri a6 v9.snd.fst.toNat 20), .int .i64 (ri a6 v9.snd.fst.toNat 21)]), (3, .box 23 [.int .i64 (v12.fst), .int .i64 (v12.snd.fst), .int .i64 (v12.snd.snd.fst)])], 4, [], []⟩) h (fun Q h => ?_) (fun v13 h => ?_)
              · conv => whnf
                refine XSplit.mk (fun e => ?_) (fun e => ?_)
                · replace h := XSplit.t h e
                  conv => whnf
                  refine ⟨_, Weak.a ?_, h⟩; (conv => whnf); exact ⟨rfl, rfl, rfl, rfl, rfl⟩
                · replace h := XSplit.f h e
                  conv => whnf
                  refine ⟨_, Weak.a ?_, h⟩; (conv => whnf); exact ⟨rfl, rfl, rfl, rfl, rfl⟩
              · conv => whnf
                refine ASeq.go tab_ok mixed_ ?_
                conv => whnf
                refine XSplit.mk (fun e => ?_) (fun e => ?_)
                · replace h := XSplit.t h e
                  conv => whnf
                  refine ⟨_, ?_, Weak.a ?_, h⟩; exact rfl; (conv => whnf); exact ⟨rfl, rfl, rfl, rfl, rfl⟩
                · replace h := XSplit.f h e
                  conv => whnf
                  refine XNeed.mk (XNeed.c h) ?_; replace h := XNeed.x h
                  conv => whnf
                  refine ⟨_, Weak.a ?_, h⟩; (conv => whnf); exact ⟨rfl, rfl, rfl, rfl, rfl⟩
            · replace h := XSplit.f h e
              conv => whnf
              refine ⟨_, ?_, Weak.a ?_, h⟩; exact rfl; (conv => whnf); exact ⟨rfl, rfl, rfl, rfl, rfl⟩
          · rcases v with v10 | v11
            · conv => whnf
              refine ⟨_, Weak.a ?_, ?_, h⟩; (conv => whnf); exact ⟨rfl, rfl, rfl, rfl, rfl⟩; exact rfl
            · conv => whnf
              refine ⟨_, Weak.a ?_, ?_, h⟩; (conv => whnf); exact ⟨rfl, rfl, rfl, rfl, rfl⟩; exact rfl

theorem c_model_Check {a0 : Int} {a1 : Int} {a2 : Int} {a3 : Int} {a4 : Int} {a5 : Bool} {a6 : Rws} {a7 : Int} {Q : Int × Int × Int → Prop} {R : AV → List AB → Prop} (h : (g_model_Check a0 a1 a2 a3 a4 a5 a6 a7).run Q) (k : ∀ r, Q r → R (.agg [.int .i64 (r.fst), .int .i64 (r.snd.fst), .int .i64 (r.snd.snd)]) ([])) : ACalls Try.prog tab 17 [.agg [.int .i64 (a0), .int .i64 (a1), .int .i64 (a2), .int .i64 (a3), .int .i64 (a4), .sl (a5) 50 (a6), .int .i64 (a7)]] [] R := by
  refine ACalls.out (fun r => .agg [.int .i64 (r.fst), .int .i64 (r.snd.fst), .int .i64 (r.snd.snd)]) (fun r => []) (Q := Q) (ACalls.introX (mv := mv) tab_ok mixed_ (fn := Try.f17) (by kernel_rfl) rfl (by kernel_rfl) (by kernel_rfl) (Nat.le_of_ble_eq_true rfl) ?_) (fun v => by first | exact ⟨rfl, Nat.le_of_ble_eq_true rfl⟩ | (cases v <;> exact ⟨rfl, Nat.le_of_ble_eq_true rfl⟩)) k
  conv => whnf
  refine ACalls.inn (c_model_whole (W.bindE h) (fun v1 h => ?_)) ⟨rfl, rfl⟩
  conv => whnf
  refine ⟨_, Weak.a ?_, ?_, h⟩; (conv => whnf); exact ⟨rfl, rfl, rfl, rfl, rfl⟩; exact rfl

theorem c_slices_Grow___byte_byte__z {a0 : Int} {Q : Bool × Rws → Prop} {R : AV → List AB → Prop} (h : (g_slices_Grow___byte_byte__z a0).run Q) (k : ∀ r, Q r → R (.own 0) ([.arr true 5 (r.fst) (r.snd)])) : ACalls Try.prog tab 66 [.nils, .int .i64 (a0)] [] R := by
  refine ACalls.out (fun r => .own 0) (fun r => [.arr true 5 (r.fst) (r.snd)]) (Q := Q) (ACalls.introX (mv := mv) tab_ok mixed_ (fn := Try.f66) (by kernel_rfl) rfl (by kernel_rfl) (by kernel_rfl) (Nat.le_of_ble_eq_true rfl) ?_) (fun v => by first | exact ⟨rfl, Nat.le_of_ble_eq_true rfl⟩ | (cases v <;> exact ⟨rfl, Nat.le_of_ble_eq_true rfl⟩)) k
  conv => whnf
  refine ASeq.go tab_ok mixed_ ?_
  conv => whnf
  refine XSplit.mk (fun e => ?_) (fun e => ?_)
  · replace h := XSplit.t h e
    conv => whnf
    refine XNeed.mk (XNeed.c h) ?_; replace h := XNeed.x h
    conv => whnf
    exact trivial
  · replace h := XSplit.f h e
    conv => whnf
    refine ASeq.go tab_ok mixed_ ?_
    conv => whnf
    refine XSplit.mk (fun e => ?_) (fun e => ?_)
    · replace h := XSplit.t h e
      conv => whnf
      refine XNeed.mk (of_decide_eq_true rfl) ?_
      conv => whnf
      refine XNeed.mk (XNeed.c h) ?_; replace h := XNeed.x h
      conv => whnf
      refine XNeed.mk (XNeed.c h) ?_; replace h := XNeed.x h
      conv => whnf
      refine ⟨_, Weak.a ?_, ?_, h⟩; (conv => whnf); exact ⟨rfl, rfl, rfl, rfl, rfl⟩; exact rfl
    · replace h := XSplit.f h e
      conv => whnf
      refine ⟨_, Weak.a ?_, ?_, h⟩; (conv => whnf); exact ⟨rfl, rfl, rfl, rfl, rfl⟩; exact rfl

theorem c_slices_Concat___byte_byte_ {a0 : Bool} {a1 : Rws} {Q : Bool × Rws → Prop} {R : AV → List AB → Prop} (h : (g_slices_Concat___byte_byte_ a0 a1).run Q) (k : ∀ r, Q r → R (.own 0) ([.arr true 5 (r.fst) (r.snd)])) : ACalls Try.prog tab 46 [.sl (a0) 28 (a1)] [] R := by
  refine ACalls.out (fun r => .own 0) (fun r => [.arr true 5 (r.fst) (r.snd)]) (Q := Q) (ACalls.introX (mv := mv) tab_ok mixed_ (fn := Try.f46) (by kernel_rfl) rfl (by kernel_rfl) (by kernel_rfl) (Nat.le_of_ble_eq_true rfl) ?_) (fun v => by first | exact ⟨rfl, Nat.le_of_ble_eq_true rfl⟩ | (cases v <;> exact ⟨rfl, Nat.le_of_ble_eq_true rfl⟩)) k
  conv => whnf
  refine ASeq.go tab_ok mixed_ ?_
  conv => whnf
  refine ALoop.ofW tab_ok mixed_ (fun v5 => ⟨[(0, .sl (a0) 28 (a1)), (2, .nils), (3, .int .i64 (v5.fst)), (9, .sl (a0) 28 (a1)), (10, .int .i64 ((↑(List.length a1) : Int))), (11, .int .i64 (v5.snd))], [], 0, [], []⟩) (fun v6 => (.exit 0, ⟨[(0, .sl (a0) 28 (a1)), (2, .nils), (3, .int .i64 (v6))], [], 0, [], []⟩)) (W.bindE h) (Weak.a ?_) (fun v5 J_ Q h => ?_) (fun v6 h => ?_)
  · conv => whnf
    exact ⟨rfl, rfl, rfl, rfl, rfl⟩
  · conv => whnf
    refine ASeq.go tab_ok mixed_ ?_
    conv => whnf
    refine XSplit.mk (fun e => ?_) (fun e => ?_)
    · replace h := XSplit.t h e
      conv => whnf
      refine ASeq.go tab_ok mixed_ ?_
      conv => whnf
      refine XNeed.mk (XNeed.c h) ?_; replace h := XNeed.x h
      conv => whnf
      refine XSplit.mk (fun e => ?_) (fun e => ?_)
      · replace h := XSplit.t h e
        conv => whnf
        refine XNeed.mk (XNeed.c h) ?_; replace h := XNeed.x h
        conv => whnf
        exact trivial
      · replace h := XSplit.f h e
        conv => whnf
        refine ⟨_, Weak.a ?_, h⟩; (conv => whnf); exact ⟨rfl, rfl, rfl, rfl, rfl⟩
    · replace h := XSplit.f h e
      conv => whnf
      refine ⟨_, ?_, Weak.a ?_, h⟩; exact rfl; (conv => whnf); exact ⟨rfl, rfl, rfl, rfl, rfl⟩
  · conv => whnf
    refine ACalls.inn (c_slices_Grow___byte_byte__z (W.bindE h) (fun v7 h => ?_)) ⟨rfl, rfl⟩
    conv => whnf
    refine ASeq.go tab_ok mixed_ ?_
    conv => whnf
    refine ALoop.ofW tab_ok mixed_ (fun v8 => ⟨[(2, .nils), (6, .own 0), (25, .sl (a0) 28 (a1)), (26, .int .i64 ((↑(List.length a1) : Int))), (27, .int .i64 (v8.fst))], [(0, .arr true 5 (v8.snd.fst) (v8.snd.snd))], 1, [], []⟩) (fun v9 => (.exit 2, ⟨[(2, .nils), (6, .own 0)], [(0, .arr true 5 (v9.fst) (v9.snd))], 1, [], []⟩)) (W.bindE h) (Weak.a ?_) (fun v8 J_ Q h => ?_) (fun v9 h => ?_)
    · conv => whnf
      exact ⟨rfl, rfl, rfl, rfl, rfl⟩
    · conv => whnf
      refine ASeq.go tab_ok mixed_ ?_
      conv => whnf
      refine XSplit.mk (fun e => ?_) (fun e => ?_)
      · replace h := XSplit.t h e
        conv => whnf
        refine ASeq.go tab_ok mixed_ ?_
        conv => whnf
        refine XNeed.mk (XNeed.c h) ?_; replace h := XNeed.x h
        conv => whnf
        refine XNeed.mk (XNeed.c h) ?_; replace h := XNeed.x h
        conv => whnf
        refine ⟨_, Weak.a ?_, h⟩; (conv => whnf); exact ⟨rfl, rfl, rfl, rfl, rfl⟩
      · replace h := XSplit.f h e
        conv => whnf
        refine ⟨_, ?_, Weak.a ?_, h⟩; exact rfl; (conv => whnf); exact ⟨rfl, rfl, rfl, rfl, rfl⟩
    · conv => whnf
      refine ⟨_, Weak.a ?_, ?_, h⟩; (conv => whnf); exact ⟨rfl, rfl, rfl, rfl, rfl⟩; exact rfl

theorem c_wire_PutU {a0 : Bool} {a1 : Rws} {a2 : Int} {Q : Bool × Rws → Prop} {R : AV → List AB → Prop} (h : (g_wire_PutU a0 a1 a2).run Q) (k : ∀ r, Q r → R (.own 0) ([.arr true 5 (r.fst) (r.snd)])) : ACalls Try.prog tab 19 [.sl (a0) 5 (a1), .int .u64 (a2)] [] R := by
  refine ACalls.out (fun r => .own 0) (fun r => [.arr true 5 (r.fst) (r.snd)]) (Q := Q) (ACalls.introX (mv := mv) tab_ok mixed_ (fn := Try.f19) (by kernel_rfl) rfl (by kernel_rfl) (by kernel_rfl) (Nat.le_of_ble_eq_true rfl) ?_) (fun v => by first | exact ⟨rfl, Nat.le_of_ble_eq_true rfl⟩ | (cases v <;> exact ⟨rfl, Nat.le_of_ble_eq_true rfl⟩)) k
  conv => whnf
  refine XNeed.mk (of_decide_eq_true rfl) ?_
  conv => whnf
  refine ACalls.inn (c_slices_Concat___byte_byte_ (W.bindE h) (fun v3 h => ?_)) ⟨rfl, rfl⟩
  conv => whnf
  refine ASeq.go tab_ok mixed_ ?_
  conv => whnf
  refine ALoop.ofW tab_ok mixed_ (fun v4 => ⟨[(1, .int .u64 (v4.fst)), (4, .nils), (5, .own 0)], [(0, .arr true 5 (v4.snd.fst) (v4.snd.snd))], 1, [], []⟩) (fun v5 => (.exit 0, ⟨[(1, .int .u64 (v5.fst)), (4, .nils), (5, .own 0)], [(0, .arr true 5 (v5.snd.fst) (v5.snd.snd))], 1, [], []⟩)) (W.bindE h) (Weak.a ?_) (fun v4 J_ Q h => ?_) (fun v5 h => ?_)
  · conv => whnf
    exact ⟨rfl, rfl, rfl, rfl, rfl⟩
  · conv => whnf
    refine ASeq.go tab_ok mixed_ ?_
    conv => whnf
    refine XSplit.mk (fun e => ?_) (fun e => ?_)
    · replace h := XSplit.t h e
      conv => whnf
      refine ASeq.go tab_ok mixed_ ?_
      conv => whnf
      refine XNeed.mk (XNeed.c h) ?_; replace h := XNeed.x h
      conv => whnf
      refine XNeed.mk (of_decide_eq_true rfl) ?_
      conv => whnf
      refine ⟨_, Weak.a ?_, h⟩; (conv => whnf); exact ⟨rfl, rfl, rfl, rfl, rfl⟩
    · replace h := XSplit.f h e
      conv => whnf
      refine ⟨_, ?_, Weak.a ?_, h⟩; exact rfl; (conv => whnf); exact ⟨rfl, rfl, rfl, rfl, rfl⟩
  · conv => whnf
    refine XNeed.mk (XNeed.c h) ?_; replace h := XNeed.x h
    conv => whnf
    refine ⟨_, Weak.a ?_, ?_, h⟩; (conv => whnf); exact ⟨rfl, rfl, rfl, rfl, rfl⟩; exact rfl

theorem c_pack_Encode_1_p {a0 : Int} {a1 : Bool} {a2 : Rws} {Q : Bool × Rws → Prop} {R : AV → List AB → Prop} (h : (g_pack_Encode_1_p a0 a1 a2).run Q) (k : ∀ r, Q r → R (.tup []) ([.box 28 [.own 1], .arr true 5 (r.fst) (r.snd)])) : ACalls Try.prog tab 18 [.int .i64 (a0), .ptr 0 0] [.box 28 [.sl (a1) 5 (a2)]] R := by
  refine ACalls.out (fun r => .tup []) (fun r => [.box 28 [.own 1], .arr true 5 (r.fst) (r.snd)]) (Q := Q) (ACalls.introX (mv := mv) tab_ok mixed_ (fn := Try.f18) (by kernel_rfl) rfl (by kernel_rfl) (by kernel_rfl) (Nat.le_of_ble_eq_true rfl) ?_) (fun v => by first | exact ⟨rfl, Nat.le_of_ble_eq_true rfl⟩ | (cases v <;> exact ⟨rfl, Nat.le_of_ble_eq_true rfl⟩)) k
  conv => whnf
  refine ACalls.inn (c_wire_PutU (W.bindE h) (fun v1 h => ?_)) ⟨rfl, rfl⟩
  conv => whnf
  refine ⟨_, Weak.a ?_, ?_, h⟩; (conv => whnf); exact ⟨rfl, rfl, rfl, rfl, rfl⟩; exact rfl

theorem c_wire_PutS {a0 : Bool} {a1 : Rws} {a2 : Int} {Q : Bool × Rws → Prop} {R : AV → List AB → Prop} (h : (g_wire_PutS a0 a1 a2).run Q) (k : ∀ r, Q r → R (.own 0) ([.arr true 5 (r.fst) (r.snd)])) : ACalls Try.prog tab 21 [.sl (a0) 5 (a1), .int .i64 (a2)] [] R := by
  refine ACalls.out (fun r => .own 0) (fun r => [.arr true 5 (r.fst) (r.snd)]) (Q := Q) (ACalls.introX (mv := mv) tab_ok mixed_ (fn := Try.f21) (by kernel_rfl) rfl (by kernel_rfl) (by kernel_rfl) (Nat.le_of_ble_eq_true rfl) ?_) (fun v => by first | exact ⟨rfl, Nat.le_of_ble_eq_true rfl⟩ | (cases v <;> exact ⟨rfl, Nat.le_of_ble_eq_true rfl⟩)) k
  conv => whnf
  refine XNeed.mk (of_decide_eq_true rfl) ?_
  conv => whnf
  refine XNeed.mk (of_decide_eq_true rfl) ?_
  conv => whnf
  refine ACalls.inn (c_wire_PutU (W.bindE h) (fun v1 h => ?_)) ⟨rfl, rfl⟩
  conv => whnf
  refine ⟨_, Weak.a ?_, ?_, h⟩; (conv => whnf); exact ⟨rfl, rfl, rfl, rfl, rfl⟩; exact rfl

theorem c_pack_Encode_2_p {a0 : Int} {a1 : Bool} {a2 : Rws} {Q : Bool × Rws → Prop} {R : AV → List AB → Prop} (h : (g_pack_Encode_2_p a0 a1 a2).run Q) (k : ∀ r, Q r → R (.tup []) ([.box 28 [.own 1], .arr true 5 (r.fst) (r.snd)])) : ACalls Try.prog tab 20 [.int .i64 (a0), .ptr 0 0] [.box 28 [.sl (a1) 5 (a2)]] R := by
  refine ACalls.out (fun r => .tup []) (fun r => [.box 28 [.own 1], .arr true 5 (r.fst) (r.snd)]) (Q := Q) (ACalls.introX (mv := mv) tab_ok mixed_ (fn := Try.f20) (by kernel_rfl) rfl (by kernel_rfl) (by kernel_rfl) (Nat.le_of_ble_eq_true rfl) ?_) (fun v => by first | exact ⟨rfl, Nat.le_of_ble_eq_true rfl⟩ | (cases v <;> exact ⟨rfl, Nat.le_of_ble_eq_true rfl⟩)) k
  conv => whnf
  refine ACalls.inn (c_wire_PutS (W.bindE h) (fun v1 h => ?_)) ⟨rfl, rfl⟩
  conv => whnf
  refine ⟨_, Weak.a ?_, ?_, h⟩; (conv => whnf); exact ⟨rfl, rfl, rfl, rfl, rfl⟩; exact rfl

theorem c_pack_numbers_p {a0 : Int} {a1 : Int} {a2 : Int} {a3 : Int} {a4 : Int} {a5 : Int} {a6 : Int} {a7 : Int} {a8 : Int} {a9 : Int} {a10 : Int} {a11 : Int} {a12 : Bool} {a13 : Rws} {a14 : Bool} {a15 : Rws} {a16 : Int} {a17 : Int} {a18 : Int} {a19 : Int} {a20 : Int} {a21 : Int} {a22 : Int} {a23 : Int} {Q : Unit → Prop} {R : AV → List AB → Prop} (h : (g_pack_numbers_p a0 a1 a2 a3 a4 a5 a6 a7 a8 a9 a10 a11 a12 a13 a14 a15 a16 a17 a18 a19 a20 a21 a22 a23).run Q) (k : ∀ r, Q r → R (.psl 1 12) ([.box 50 [.int .i64 (a0), .int .i64 (a1), .int .i64 (a2), .int .i64 (a3), .int .i64 (a4), .int .i64 (a5), .int .i64 (a6), .int .i64 (a7), .int .i64 (a8), .int .i64 (a9), .int .i64 (a10), .int .i64 (a11), .sl (a12) 51 (a13), .sl (a14) 21 (a15), .int .i64 (a16), .int .i64 (a17), .int .i64 (a18), .int .i64 (a19), .int .i64 (a20), .int .i64 (a21), .int .i64 (a22), .int .i64 (a23)], .box 60 [.ptr 0 0, .ptr 0 1, .ptr 0 2, .ptr 0 3, .ptr 0 4, .ptr 0 5, .ptr 0 6, .ptr 0 7, .ptr 0 8, .ptr 0 9, .ptr 0 10, .ptr 0 11]])) : ACalls Try.prog tab 22 [.ptr 0 0] [.box 50 [.int .i64 (a0), .int .i64 (a1), .int .i64 (a2), .int .i64 (a3), .int .i64 (a4), .int .i64 (a5), .int .i64 (a6), .int .i64 (a7), .int .i64 (a8), .int .i64 (a9), .int .i64 (a10), .int .i64 (a11), .sl (a12) 51 (a13), .sl (a14) 21 (a15), .int .i64 (a16), .int .i64 (a17), .int .i64 (a18), .int .i64 (a19), .int .i64 (a20), .int .i64 (a21), .int .i64 (a22), .int .i64 (a23)]] R := by
  refine ACalls.out (fun r => .psl 1 12) (fun r => [.box 50 [.int .i64 (a0), .int .i64 (a1), .int .i64 (a2), .int .i64 (a3), .int .i64 (a4), .int .i64 (a5), .int .i64 (a6), .int .i64 (a7), .int .i64 (a8), .int .i64 (a9), .int .i64 (a10), .int .i64 (a11), .sl (a12) 51 (a13), .sl (a14) 21 (a15), .int .i64 (a16), .int .i64 (a17), .int .i64 (a18), .int .i64 (a19), .int .i64 (a20), .int .i64 (a21), .int .i64 (a22), .int .i64 (a23)], .box 60 [.ptr 0 0, .ptr 0 1, .ptr 0 2, .ptr 0 3, .ptr 0 4, .ptr 0 5, .ptr 0 6, .ptr 0 7, .ptr 0 8, .ptr 0 9, .ptr 0 10, .ptr 0 11]]) (Q := Q) (ACalls.introX (mv := mv) tab_ok mixed_ (fn := Try.f22) (by kernel_rfl) rfl (by kernel_rfl) (by kernel_rfl) (Nat.le_of_ble_eq_true rfl) ?_) (fun v => by first | exact ⟨rfl, Nat.le_of_ble_eq_true rfl⟩ | (cases v <;> exact ⟨rfl, Nat.le_of_ble_eq_true rfl⟩)) k
  conv => whnf
  refine XDraw.d [0, 1, 2, 3, 4, 5, 6, 7, 8, 9, 10, 11, 12, 13, 14, 15, 16, 17, 18, 19, 20, 21, 22, 23, 24, 25, 26, 27, 28, 29, 30, 31, 32, 33, 34, 35, 36, 37] [[], [], [], [], [], [], [], [], [], [], [], [], [], [], [], [], [], [], [], [], [], [], [], [], [], [], [], [], [], [], [], [], [], [], [], [], [], []] (by decide +kernel) ?_
  conv => whnf
  refine ⟨_, Weak.a ?_, ?_, h⟩; (conv => whnf); exact ⟨rfl, rfl, rfl, rfl, rfl⟩; exact rfl

theorem c_pack_lists {a0 : Bool} {a1 : Rws} {a2 : Int} {a3 : Int} {a4 : Int} {a5 : Int} {a6 : Int} {a7 : Int} {a8 : Int} {a9 : Int} {a10 : Int} {a11 : Int} {a12 : Int} {a13 : Int} {a14 : Bool} {a15 : Rws} {a16 : Bool} {a17 : Rws} {a18 : Int} {a19 : Int} {a20 : Int} {a21 : Int} {a22 : Int} {a23 : Int} {a24 : Int} {a25 : Int} {Q : Bool × Rws → Prop} {R : AV → List AB → Prop} (h : (g_pack_lists a0 a1 a2 a3 a4 a5 a6 a7 a8 a9 a10 a11 a12 a13 a14 a15 a16 a17 a18 a19 a20 a21 a22 a23 a24 a25).run Q) (k : ∀ r, Q r → R (.own 0) ([.arr true 5 (r.fst) (r.snd)])) : ACalls Try.prog tab 23 [.sl (a0) 5 (a1), .agg [.int .i64 (a2), .int .i64 (a3), .int .i64 (a4), .int .i64 (a5), .int .i64 (a6), .int .i64 (a7), .int .i64 (a8), .int .i64 (a9), .int .i64 (a10), .int .i64 (a11), .int .i64 (a12), .int .i64 (a13), .sl (a14) 51 (a15), .sl (a16) 21 (a17), .int .i64 (a18), .int .i64 (a19), .int .i64 (a20), .int .i64 (a21), .int .i64 (a22), .int .i64 (a23), .int .i64 (a24), .int .i64 (a25)]] [] R := by
  refine ACalls.out (fun r => .own 0) (fun r => [.arr true 5 (r.fst) (r.snd)]) (Q := Q) (ACalls.introX (mv := mv) tab_ok mixed_ (fn := Try.f23) (by kernel_rfl) rfl (by kernel_rfl) (by kernel_rfl) (Nat.le_of_ble_eq_true rfl) ?_) (fun v => by first | exact ⟨rfl, Nat.le_of_ble_eq_true rfl⟩ | (cases v <;> exact ⟨rfl, Nat.le_of_ble_eq_true rfl⟩)) k
  conv => whnf
  refine ACalls.inn (c_wire_PutU (W.bindE h) (fun v8 h => ?_)) ⟨rfl, rfl⟩
  conv => whnf
  refine XNeed.mk (XNeed.c h) ?_; replace h := XNeed.x h
  conv => whnf
  refine ASeq.go tab_ok mixed_ ?_
  conv => whnf
  refine ALoop.ofW tab_ok mixed_ (fun v9 => ⟨[(0, .own 0), (3, .ptr 1 0), (4, .nils), (5, .own 2), (22, .sl (a14) 51 (a15)), (23, .int .i64 ((↑(List.length a15) : Int))), (24, .int .i64 (v9.fst))], [(0, .arr true 5 (v8.fst) (v8.snd)), (1, .box 50 [.int .i64 (a2), .int .i64 (a3), .int .i64 (a4), .int .i64 (a5), .int .i64 (a6), .int .i64 (a7), .int .i64 (a8), .int .i64 (a9), .int .i64 (a10), .int .i64 (a11), .int .i64 (a12), .int .i64 (a13), .sl (a14) 51 (a15), .sl (a16) 21 (a17), .int .i64 (a18), .int .i64 (a19), .int .i64 (a20), .int .i64 (a21), .int .i64 (a22), .int .i64 (a23), .int .i64 (a24), .int .i64 (a25)]), (2, .arr true 5 (false) (v9.snd))], 3, [], []⟩) (fun v10 => (.exit 0, ⟨[(0, .own 0), (3, .ptr 1 0), (4, .nils), (5, .own 2)], [(0, .arr true 5 (v8.fst) (v8.snd)), (1, .box 50 [.int .i64 (a2), .int .i64 (a3), .int .i64 (a4), .int .i64 (a5), .int .i64 (a6), .int .i64 (a7), .int .i64 (a8), .int .i64 (a9), .int .i64 (a10), .int .i64 (a11), .int .i64 (a12), .int .i64 (a13), .sl (a14) 51 (a15), .sl (a16) 21 (a17), .int .i64 (a18), .int .i64 (a19), .int .i64 (a20), .int .i64 (a21), .int .i64 (a22), .int .i64 (a23), .int .i64 (a24), .int .i64 (a25)]), (2, .arr true 5 (false) (v10))], 3, [], []⟩)) (W.bindE h) (Weak.a ?_) (fun v9 J_ Q h => ?_) (fun v10 h => ?_)
  · conv => whnf
    exact ⟨rfl, rfl, rfl, rfl, rfl⟩
  · conv => whnf
    refine ASeq.go tab_ok mixed_ ?_
    conv => whnf
    refine XSplit.mk (fun e => ?_) (fun e => ?_)
    · replace h := XSplit.t h e
      conv => whnf
      refine ASeq.go tab_ok mixed_ ?_
      conv => whnf
      refine XNeed.mk (XNeed.c h) ?_; replace h := XNeed.x h
      conv => whnf
      refine ACalls.inn (c_wire_PutS (W.bindE h) (fun v11 h => ?_)) ⟨rfl, rfl⟩
      conv => whnf
      refine XNeed.mk (XNeed.c h) ?_; replace h := XNeed.x h
      conv => whnf
      refine ⟨_, Weak.a ?_, h⟩; (conv => whnf); exact ⟨rfl, rfl, rfl, rfl, rfl⟩
    · replace h := XSplit.f h e
      conv => whnf
      refine ⟨_, ?_, Weak.a ?_, h⟩; exact rfl; (conv => whnf); exact ⟨rfl, rfl, rfl, rfl, rfl⟩
  · conv => whnf
    refine XNeed.mk (XNeed.c h) ?_; replace h := XNeed.x h
    conv => whnf
    refine ACalls.inn (c_wire_PutU (W.bindE h) (fun v12 h => ?_)) ⟨rfl, rfl⟩
    conv => whnf
    refine ASeq.go tab_ok mixed_ ?_
    conv => whnf
    refine ALoop.ofW tab_ok mixed_ (fun v13 => ⟨[(0, .own 0), (4, .nils), (44, .sl (a16) 21 (a17)), (45, .int .i64 ((↑(List.length a17) : Int))), (46, .int .i64 (v13.fst))], [(0, .arr true 5 (v13.snd.fst) (v13.snd.snd))], 1, [], []⟩) (fun v14 => (.exit 2, ⟨[(0, .own 0), (4, .nils)], [(0, .arr true 5 (v14.fst) (v14.snd))], 1, [], []⟩)) (W.bindE h) (Weak.a ?_) (fun v13 J_ Q h => ?_) (fun v14 h => ?_)
    · conv => whnf
      exact ⟨rfl, rfl, rfl, rfl, rfl⟩
    · conv => whnf
      refine ASeq.go tab_ok mixed_ ?_
      conv => whnf
      refine XSplit.mk (fun e => ?_) (fun e => ?_)
      · replace h := XSplit.t h e
        conv => whnf
        refine ASeq.go tab_ok mixed_ ?_
        conv => whnf
        refine XNeed.mk (XNeed.c h) ?_; replace h := XNeed.x h
        conv => whnf
        refine ACalls.inn (c_wire_PutS (W.bindE h) (fun v15 h => ?_)) ⟨rfl, rfl⟩
        conv => whnf
        refine ⟨_, Weak.a ?_, h⟩; (conv => whnf); exact ⟨rfl, rfl, rfl, rfl, rfl⟩
      · replace h := XSplit.f h e
        conv => whnf
        refine ⟨_, ?_, Weak.a ?_, h⟩; exact rfl; (conv => whnf); exact ⟨rfl, rfl, rfl, rfl, rfl⟩
    · conv => whnf
      refine ⟨_, Weak.a ?_, ?_, h⟩; (conv => whnf); exact ⟨rfl, rfl, rfl, rfl, rfl⟩; exact rfl

theorem c_pack_scales_p {a0 : Int} {a1 : Int} {a2 : Int} {a3 : Int} {a4 : Int} {a5 : Int} {a6 : Int} {a7 : Int} {a8 : Int} {a9 : Int} {a10 : Int} {a11 : Int} {a12 : Bool} {a13 : Rws} {a14 : Bool} {a15 : Rws} {a16 : Int} {a17 : Int} {a18 : Int} {a19 : Int} {a20 : Int} {a21 : Int} {a22 : Int} {a23 : Int} {Q : Unit → Prop} {R : AV → List AB → Prop} (h : (g_pack_scales_p a0 a1 a2 a3 a4 a5 a6 a7 a8 a9 a10 a11 a12 a13 a14 a15 a16 a17 a18 a19 a20 a21 a22 a23).run Q) (k : ∀ r, Q r → R (.psl 1 4) ([.box 50 [.int .i64 (a0), .int .i64 (a1), .int .i64 (a2), .int .i64 (a3), .int .i64 (a4), .int .i64 (a5), .int .i64 (a6), .int .i64 (a7), .int .i64 (a8), .int .i64 (a9), .int .i64 (a10), .int .i64 (a11), .sl (a12) 51 (a13), .sl (a14) 21 (a15), .int .i64 (a16), .int .i64 (a17), .int .i64 (a18), .int .i64 (a19), .int .i64 (a20), .int .i64 (a21), .int .i64 (a22), .int .i64 (a23)], .box 60 [.ptr 0 14, .ptr 0 15, .ptr 0 16, .ptr 0 17]])) : ACalls Try.prog tab 24 [.ptr 0 0] [.box 50 [.int .i64 (a0), .int .i64 (a1), .int .i64 (a2), .int .i64 (a3), .int .i64 (a4), .int .i64 (a5), .int .i64 (a6), .int .i64 (a7), .int .i64 (a8), .int .i64 (a9), .int .i64 (a10), .int .i64 (a11), .sl (a12) 51 (a13), .sl (a14) 21 (a15), .int .i64 (a16), .int .i64 (a17), .int .i64 (a18), .int .i64 (a19), .int .i64 (a20), .int .i64 (a21), .int .i64 (a22), .int .i64 (a23)]] R := by
  refine ACalls.out (fun r => .psl 1 4) (fun r => [.box 50 [.int .i64 (a0), .int .i64 (a1), .int .i64 (a2), .int .i64 (a3), .int .i64 (a4), .int .i64 (a5), .int .i64 (a6), .int .i64 (a7), .int .i64 (a8), .int .i64 (a9), .int .i64 (a10), .int .i64 (a11), .sl (a12) 51 (a13), .sl (a14) 21 (a15), .int .i64 (a16), .int .i64 (a17), .int .i64 (a18), .int .i64 (a19), .int .i64 (a20), .int .i64 (a21), .int .i64 (a22), .int .i64 (a23)], .box 60 [.ptr 0 14, .ptr 0 15, .ptr 0 16, .ptr 0 17]]) (Q := Q) (ACalls.introX (mv := mv) tab_ok mixed_ (fn := Try.f24) (by kernel_rfl) rfl (by kernel_rfl) (by kernel_rfl) (Nat.le_of_ble_eq_true rfl) ?_) (fun v => by first | exact ⟨rfl, Nat.le_of_ble_eq_true rfl⟩ | (cases v <;> exact ⟨rfl, Nat.le_of_ble_eq_true rfl⟩)) k
  conv => whnf
  refine XDraw.d [0, 1, 2, 3, 4, 5, 6, 7, 8, 9, 10, 11, 12, 13, 14, 15, 16, 17] [[], [], [], [], [], [], [], [], [], [], [], [], [], [], [], [], [], []] (by decide +kernel) ?_
  conv => whnf
  refine ⟨_, Weak.a ?_, ?_, h⟩; (conv => whnf); exact ⟨rfl, rfl, rfl, rfl, rfl⟩; exact rfl

theorem c_pack_ends_p {a0 : Int} {a1 : Int} {a2 : Int} {a3 : Int} {a4 : Int} {a5 : Int} {a6 : Int} {a7 : Int} {a8 : Int} {a9 : Int} {a10 : Int} {a11 : Int} {a12 : Bool} {a13 : Rws} {a14 : Bool} {a15 : Rws} {a16 : Int} {a17 : Int} {a18 : Int} {a19 : Int} {a20 : Int} {a21 : Int} {a22 : Int} {a23 : Int} {Q : Unit → Prop} {R : AV → List AB → Prop} (h : (g_pack_ends_p a0 a1 a2 a3 a4 a5 a6 a7 a8 a9 a10 a11 a12 a13 a14 a15 a16 a17 a18 a19 a20 a21 a22 a23).run Q) (k : ∀ r, Q r → R (.psl 1 4) ([.box 50 [.int .i64 (a0), .int .i64 (a1), .int .i64 (a2), .int .i64 (a3), .int .i64 (a4), .int .i64 (a5), .int .i64 (a6), .int .i64 (a7), .int .i64 (a8), .int .i64 (a9), .int .i64 (a10), .int .i64 (a11), .sl (a12) 51 (a13), .sl (a14) 21 (a15), .int .i64 (a16), .int .i64 (a17), .int .i64 (a18), .int .i64 (a19), .int .i64 (a20), .int .i64 (a21), .int .i64 (a22), .int .i64 (a23)], .box 60 [.ptr 0 18, .ptr 0 19, .ptr 0 20, .ptr 0 21]])) : ACalls Try.prog tab 25 [.ptr 0 0] [.box 50 [.int .i64 (a0), .int .i64 (a1), .int .i64 (a2), .int .i64 (a3), .int .i64 (a4), .int .i64 (a5), .int .i64 (a6), .int .i64 (a7), .int .i64 (a8), .int .i64 (a9), .int .i64 (a10), .int .i64 (a11), .sl (a12) 51 (a13), .sl (a14) 21 (a15), .int .i64 (a16), .int .i64 (a17), .int .i64 (a18), .int .i64 (a19), .int .i64 (a20), .int .i64 (a21), .int .i64 (a22), .int .i64 (a23)]] R := by
  refine ACalls.out (fun r => .psl 1 4) (fun r => [.box 50 [.int .i64 (a0), .int .i64 (a1), .int .i64 (a2), .int .i64 (a3), .int .i64 (a4), .int .i64 (a5), .int .i64 (a6), .int .i64 (a7), .int .i64 (a8), .int .i64 (a9), .int .i64 (a10), .int .i64 (a11), .sl (a12) 51 (a13), .sl (a14) 21 (a15), .int .i64 (a16), .int .i64 (a17), .int .i64 (a18), .int .i64 (a19), .int .i64 (a20), .int .i64 (a21), .int .i64 (a22), .int .i64 (a23)], .box 60 [.ptr 0 18, .ptr 0 19, .ptr 0 20, .ptr 0 21]]) (Q := Q) (ACalls.introX (mv := mv) tab_ok mixed_ (fn := Try.f25) (by kernel_rfl) rfl (by kernel_rfl) (by kernel_rfl) (Nat.le_of_ble_eq_true rfl) ?_) (fun v => by first | exact ⟨rfl, Nat.le_of_ble_eq_true rfl⟩ | (cases v <;> exact ⟨rfl, Nat.le_of_ble_eq_true rfl⟩)) k
  conv => whnf
  refine XDraw.d [0, 1, 2, 3, 4, 5, 6, 7, 8, 9, 10, 11, 12, 13] [[], [], [], [], [], [], [], [], [], [], [], [], [], []] (by decide +kernel) ?_
  conv => whnf
  refine ⟨_, Weak.a ?_, ?_, h⟩; (conv => whnf); exact ⟨rfl, rfl, rfl, rfl, rfl⟩; exact rfl

theorem c_pack_Encode {a0 : Int} {a1 : Int} {a2 : Int} {a3 : Int} {a4 : Int} {a5 : Bool} {a6 : Rws} {a7 : Int} {Q : Int × Int × Int × Bool × Rws → Prop} {R : AV → List AB → Prop} (h : (g_pack_Encode a0 a1 a2 a3 a4 a5 a6 a7).run Q) (k : ∀ r, Q r → R (.tup [.own 0, .agg [.int .i64 (r.fst), .int .i64 (r.snd.fst), .int .i64 (r.snd.snd.fst)]]) ([.arr true 5 (r.snd.snd.snd.fst) (r.snd.snd.snd.snd)])) : ACalls Try.prog tab 10 [.agg [.int .i64 (a0), .int .i64 (a1), .int .i64 (a2), .int .i64 (a3), .int .i64 (a4), .sl (a5) 50 (a6), .int .i64 (a7)]] [] R := by
  refine ACalls.out (fun r => .tup [.own 0, .agg [.int .i64 (r.fst), .int .i64 (r.snd.fst), .int .i64 (r.snd.snd.fst)]]) (fun r => [.arr true 5 (r.snd.snd.snd.fst) (r.snd.snd.snd.snd)]) (Q := Q) (ACalls.introX (mv := mv) tab_ok mixed_ (fn := Try.f10) (by kernel_rfl) rfl (by kernel_rfl) (by kernel_rfl) (Nat.le_of_ble_eq_true rfl) ?_) (fun v => by first | exact ⟨rfl, Nat.le_of_ble_eq_true rfl⟩ | (cases v <;> exact ⟨rfl, Nat.le_of_ble_eq_true rfl⟩)) k
  conv => whnf
  refine ASeq.go tab_ok mixed_ ?_
  conv => whnf
  refine ACalls.inn (c_model_Check (W.bindE h) (fun v34 h => ?_)) ⟨rfl, rfl⟩
  conv => whnf
  refine XSplit.mk (fun e => ?_) (fun e => ?_)
  · replace h := XSplit.t h e
    conv => whnf
    refine XDraw.d [0, 1, 2] [[], [], [1]] (by decide +kernel) ?_
    conv => whnf
    refine ⟨_, Weak.a ?_, ?_, h⟩; (conv => whnf); exact ⟨rfl, rfl, rfl, rfl, rfl⟩; exact rfl
  · replace h := XSplit.f h e
    conv => whnf
    refine ACalls.inn (c_pack_Encode_1_p (W.bindE h) (fun v35 h => ?_)) ⟨rfl, rfl⟩
    conv => whnf
    refine ACalls.inn (c_pack_Encode_1_p (W.bindE h) (fun v36 h => ?_)) ⟨rfl, rfl⟩
    conv => whnf
    refine ACalls.inn (c_pack_Encode_1_p (W.bindE h) (fun v37 h => ?_)) ⟨rfl, rfl⟩
    conv => whnf
    refine ACalls.inn (c_pack_Encode_2_p (W.bindE h) (fun v38 h => ?_)) ⟨rfl, rfl⟩
    conv => whnf
    refine ACalls.inn (c_pack_Encode_2_p (W.bindE h) (fun v39 h => ?_)) ⟨rfl, rfl⟩
    conv => whnf
    refine ACalls.inn (c_pack_Encode_1_p (W.bindE h) (fun v40 h => ?_)) ⟨rfl, rfl⟩
    conv => whnf
    refine ASeq.go tab_ok mixed_ ?_
    conv => whnf
    refine ALoop.ofW tab_ok mixed_ (fun v41 => ⟨[(1, .ptr 0 0), (2, .nils), (3, .ptr 1 0), (5, .ptr 2 0), (6, .fn 18 [] [.ptr 2 0]), (7, .fn 20 [] [.ptr 2 0]), (55, .sl (a5) 50 (a6)), (56, .int .i64 ((↑(List.length a6) : Int))), (57, .int .i64 (v41.fst))], [(0, .box 26 [.int .i64 (a0), .int .i64 (a1), .int .i64 (a2), .int .i64 (a3), .int .i64 (a4), .sl (a5) 50 (a6), .int .i64 (a7)]), (1, .box 31 [.int .i64 (0), .int .i64 (0), .int .i64 (0)]), (2, .box 28 [.own 3]), (3, .arr true 5 (v41.snd.fst) (v41.snd.snd))], 4, [], []⟩) (fun v42 => (.exit 0, ⟨[(1, .ptr 0 0), (2, .nils), (3, .ptr 1 0), (5, .ptr 2 0), (6, .fn 18 [] [.ptr 2 0])], [(0, .box 26 [.int .i64 (a0), .int .i64 (a1), .int .i64 (a2), .int .i64 (a3), .int .i64 (a4), .sl (a5) 50 (a6), .int .i64 (a7)]), (1, .box 31 [.int .i64 (0), .int .i64 (0), .int .i64 (0)]), (2, .box 28 [.own 3]), (3, .arr true 5 (v42.fst) (v42.snd))], 4, [], []⟩)) (W.bindE h) (Weak.a ?_) (fun v41 J_ Q h => ?_) (fun v42 h => ?_)
    · conv => whnf
      exact ⟨rfl, rfl, rfl, rfl, rfl⟩
    · conv => whnf
      refine ASeq.go tab_ok mixed_ ?_
      conv => whnf
      refine XSplit.mk (fun e => ?_) (fun e => ?_)
      · replace h := XSplit.t h e
        conv => whnf
        refine ASeq.go tab_ok mixed_ ?_
        conv => whnf
        refine XNeed.mk (XNeed.c h) ?_; replace h := XNeed.x h
        conv => whnf
        refine ASeq.go tab_ok mixed_ ?_
        conv => whnf
        refine ACalls.inn (c_pack_numbers_p (W.bindE h) (fun v43 h => ?_)) ⟨rfl, rfl⟩
        conv => whnf
        refine ALoop.unroll tab_ok mixed_ (kn := fun st => ALoop Try.prog tab _ _ _ _ st _) (fun _ h => h) ?_
        conv => whnf
        refine ASeq.go tab_ok mixed_ ?_
        conv => whnf
        refine XSplit.tt rfl ?_
        conv => whnf
        refine ASeq.go tab_ok mixed_ ?_
        conv => whnf
        refine XNeed.mk (of_decide_eq_true rfl) ?_
        conv => whnf
        refine ACalls.inn (c_pack_Encode_1_p (W.bindE h) (fun v44 h => ?_)) ⟨rfl, rfl⟩
        conv => whnf
        refine ALoop.unroll tab_ok mixed_ (kn := fun st => ALoop Try.prog tab _ _ _ _ st _) (fun _ h => h) ?_
        conv => whnf
        refine ASeq.go tab_ok mixed_ ?_
        conv => whnf
        refine XSplit.tt rfl ?_
        conv => whnf
        refine ASeq.go tab_ok mixed_ ?_
        conv => whnf
        refine XNeed.mk (of_decide_eq_true rfl) ?_
        conv => whnf
        refine ACalls.inn (c_pack_Encode_1_p (W.bindE h) (fun v45 h => ?_)) ⟨rfl, rfl⟩
        conv => whnf
        refine ALoop.unroll tab_ok mixed_ (kn := fun st => ALoop Try.prog tab _ _ _ _ st _) (fun _ h => h) ?_
        conv => whnf
        refine ASeq.go tab_ok mixed_ ?_
        conv => whnf
        refine XSplit.tt rfl ?_
        conv => whnf
        refine ASeq.go tab_ok mixed_ ?_
        conv => whnf
        refine XNeed.mk (of_decide_eq_true rfl) ?_
        conv => whnf
        refine ACalls.inn (c_pack_Encode_1_p (W.bindE h) (fun v46 h => ?_)) ⟨rfl, rfl⟩
        conv => whnf
        refine ALoop.unroll tab_ok mixed_ (kn := fun st => ALoop Try.prog tab _ _ _ _ st _) (fun _ h => h) ?_
        conv => whnf
        refine ASeq.go tab_ok mixed_ ?_
        conv => whnf
        refine XSplit.tt rfl ?_
        conv => whnf
        refine ASeq.go tab_ok mixed_ ?_
        conv => whnf
        refine XNeed.mk (of_decide_eq_true rfl) ?_
        conv => whnf
        refine ACalls.inn (c_pack_Encode_1_p (W.bindE h) (fun v47 h => ?_)) ⟨rfl, rfl⟩
        conv => whnf
        refine ALoop.unroll tab_ok mixed_ (kn := fun st => ALoop Try.prog tab _ _ _ _ st _) (fun _ h => h) ?_
        conv => whnf
        refine ASeq.go tab_ok mixed_ ?_
        conv => whnf
        refine XSplit.tt rfl ?_
        conv => whnf
        refine ASeq.go tab_ok mixed_ ?_
        conv => whnf
        refine XNeed.mk (of_decide_eq_true rfl) ?_
        conv => whnf
        refine ACalls.inn (c_pack_Encode_1_p (W.bindE h) (fun v48 h => ?_)) ⟨rfl, rfl⟩
        conv => whnf
        refine ALoop.unroll tab_ok mixed_ (kn := fun st => ALoop Try.prog tab _ _ _ _ st _) (fun _ h => h) ?_
        conv => whnf
        refine ASeq.go tab_ok mixed_ ?_
        conv => whnf
        refine XSplit.tt rfl ?_
        conv => whnf
        refine ASeq.go tab_ok mixed_ ?_
        conv => whnf
        refine XNeed.mk (of_decide_eq_true rfl) ?_
        conv => whnf
        refine ACalls.inn (c_pack_Encode_1_p (W.bindE h) (fun v49 h => ?_)) ⟨rfl, rfl⟩
        conv => whnf
        refine ALoop.unroll tab_ok mixed_ (kn := fun st => ALoop Try.prog tab _ _ _ _ st _) (fun _ h => h) ?_
        conv => whnf
        refine ASeq.go tab_ok mixed_ ?_
        conv => whnf
        refine XSplit.tt rfl ?_
        conv => whnf
        refine ASeq.go tab_ok mixed_ ?_
        conv => whnf
        refine XNeed.mk (of_decide_eq_true rfl) ?_
        conv => whnf
        refine ACalls.inn (c_pack_Encode_1_p (W.bindE h) (fun v50 h => ?_)) ⟨rfl, rfl⟩
        conv => whnf
        refine ALoop.unroll tab_ok mixed_ (kn := fun st => ALoop Try.prog tab _ _ _ _ st _) (fun _ h => h) ?_
        conv => whnf
        refine ASeq.go tab_ok mixed_ ?_
        conv => whnf
        refine XSplit.tt rfl ?_
        conv => whnf
        refine ASeq.go tab_ok mixed_ ?_
        conv => whnf
        refine XNeed.mk (of_decide_eq_true rfl) ?_
        conv => whnf
        refine ACalls.inn (c_pack_Encode_1_p (W.bindE h) (fun v51 h => ?_)) ⟨rfl, rfl⟩
        conv => whnf
        refine ALoop.unroll tab_ok mixed_ (kn := fun st => ALoop Try.prog tab _ _ _ _ st _) (fun _ h => h) ?_
        conv => whnf
        refine ASeq.go tab_ok mixed_ ?_
        conv => whnf
        refine XSplit.tt rfl ?_
        conv => whnf
        refine ASeq.go tab_ok mixed_ ?_
        conv => whnf
        refine XNeed.mk (of_decide_eq_true rfl) ?_
        conv => whnf
        refine ACalls.inn (c_pack_Encode_1_p (W.bindE h) (fun v52 h => ?_)) ⟨rfl, rfl⟩
        conv => whnf
        refine ALoop.unroll tab_ok mixed_ (kn := fun st => ALoop Try.prog tab _ _ _ _ st _) (fun _ h => h) ?_
        conv => whnf
        refine ASeq.go tab_ok mixed_ ?_
        conv => whnf
        refine XSplit.tt rfl ?_
        conv => whnf
        refine ASeq.go tab_ok mixed_ ?_
        conv => whnf
        refine XNeed.mk (of_decide_eq_true rfl) ?_
        conv => whnf
        refine ACalls.inn (c_pack_Encode_1_p (W.bindE h) (fun v53 h => ?_)) ⟨rfl, rfl⟩
        conv => whnf
        refine ALoop.unroll tab_ok mixed_ (kn := fun st => ALoop Try.prog tab _ _ _ _ st _) (fun _ h => h) ?_
        conv => whnf
        refine ASeq.go tab_ok mixed_ ?_
        conv => whnf
        refine XSplit.tt rfl ?_
        conv => whnf
        refine ASeq.go tab_ok mixed_ ?_
        conv => whnf
        refine XNeed.mk (of_decide_eq_true rfl) ?_
        conv => whnf
        refine ACalls.inn (c_pack_Encode_1_p (W.bindE h) (fun v54 h => ?_)) ⟨rfl, rfl⟩
        conv => whnf
        refine ALoop.unroll tab_ok mixed_ (kn := fun st => ALoop Try.prog tab _ _ _ _ st _) (fun _ h => h) ?_
        conv => whnf
        refine ASeq.go tab_ok mixed_ ?_
        conv => whnf
        refine XSplit.tt rfl ?_
        conv => whnf
        refine ASeq.go tab_ok mixed_ ?_
        conv => whnf
        refine XNeed.mk (of_decide_eq_true rfl) ?_
        conv => whnf
        refine ACalls.inn (c_pack_Encode_1_p (W.bindE h) (fun v55 h => ?_)) ⟨rfl, rfl⟩
        conv => whnf
        refine ALoop.unroll tab_ok mixed_ (kn := fun st => ALoop Try.prog tab _ _ _ _ st _) (fun _ h => h) ?_
        conv => whnf
        refine ASeq.go tab_ok mixed_ ?_
        conv => whnf
        refine XSplit.ff rfl ?_
        conv => whnf
        refine ACalls.inn (c_pack_lists (W.bindE h) (fun v56 h => ?_)) ⟨rfl, rfl⟩
        conv => whnf
        refine ASeq.go tab_ok mixed_ ?_
        conv => whnf
        refine ACalls.inn (c_pack_scales_p (W.bindE h) (fun v57 h => ?_)) ⟨rfl, rfl⟩
        conv => whnf
        refine ALoop.unroll tab_ok mixed_ (kn := fun st => ALoop Try.prog tab _ _ _ _ st _) (fun _ h => h) ?_
        conv => whnf
        refine ASeq.go tab_ok mixed_ ?_
        conv => whnf
        refine XSplit.tt rfl ?_
        conv => whnf
        refine ASeq.go tab_ok mixed_ ?_
        conv => whnf
        refine XNeed.mk (of_decide_eq_true rfl) ?_
        conv => whnf
        refine ACalls.inn (c_pack_Encode_1_p (W.bindE h) (fun v58 h => ?_)) ⟨rfl, rfl⟩
        conv => whnf
        refine ALoop.unroll tab_ok mixed_ (kn := fun st => ALoop Try.prog tab _ _ _ _ st _) (fun _ h => h) ?_
        conv => whnf
        refine ASeq.go tab_ok mixed_ ?_
        conv => whnf
        refine XSplit.tt rfl ?_
        conv => whnf
        refine ASeq.go tab_ok mixed_ ?_
        conv => whnf
        refine XNeed.mk (of_decide_eq_true rfl) ?_
        conv => whnf
        refine ACalls.inn (c_pack_Encode_1_p (W.bindE h) (fun v59 h => ?_)) ⟨rfl, rfl⟩
        conv => whnf
        refine ALoop.unroll tab_ok mixed_ (kn := fun st => ALoop Try.prog tab _ _ _ _ st _) (fun _ h => h) ?_
        conv => whnf
        refine ASeq.go tab_ok mixed_ ?_
        conv => whnf
        refine XSplit.tt rfl ?_
        conv => whnf
        refine ASeq.go tab_ok mixed_ ?_
        conv => whnf
        refine XNeed.mk (of_decide_eq_true rfl) ?_
        conv => whnf
        refine ACalls.inn (c_pack_Encode_1_p (W.bindE h) (fun v60 h => ?_)) ⟨rfl, rfl⟩
        conv => whnf
        refine ALoop.unroll tab_ok mixed_ (kn := fun st => ALoop Try.prog tab _ _ _ _ st _) (fun _ h => h) ?_
        conv => whnf
        refine ASeq.go tab_ok mixed_ ?_
        conv => whnf
        refine XSplit.tt rfl ?_
        conv => whnf
        refine ASeq.go tab_ok mixed_ ?_
        conv => whnf
        refine XNeed.mk (of_decide_eq_true rfl) ?_
        conv => whnf
        refine ACalls.inn (c_pack_Encode_1_p (W.bindE h) (fun v61 h => ?_)) ⟨rfl, rfl⟩
        conv => whnf
        refine ALoop.unroll tab_ok mixed_ (kn := fun st => ALoop Try.prog tab _ _ _ _ st _) (fun _ h => h) ?_
        conv => whnf
        refine ASeq.go tab_ok mixed_ ?_
        conv => whnf
        refine XSplit.ff rfl ?_
        conv => whnf
        refine ACalls.inn (c_pack_ends_p (W.bindE h) (fun v62 h => ?_)) ⟨rfl, rfl⟩
        conv => whnf
        refine ALoop.unroll tab_ok mixed_ (kn := fun st => ALoop Try.prog tab _ _ _ _ st _) (fun _ h => h) ?_
        conv => whnf
        refine ASeq.go tab_ok mixed_ ?_
        conv => whnf
        refine XSplit.tt rfl ?_
        conv => whnf
        refine ASeq.go tab_ok mixed_ ?_
        conv => whnf
        refine XNeed.mk (of_decide_eq_true rfl) ?_
        conv => whnf
        refine ACalls.inn (c_pack_Encode_2_p (W.bindE h) (fun v63 h => ?_)) ⟨rfl, rfl⟩
        conv => whnf
        refine ALoop.unroll tab_ok mixed_ (kn := fun st => ALoop Try.prog tab _ _ _ _ st _) (fun _ h => h) ?_
        conv => whnf
        refine ASeq.go tab_ok mixed_ ?_
        conv => whnf
        refine XSplit.tt rfl ?_
        conv => whnf
        refine ASeq.go tab_ok mixed_ ?_
        conv => whnf
        refine XNeed.mk (of_decide_eq_true rfl) ?_
        conv => whnf
        refine ACalls.inn (c_pack_Encode_2_p (W.bindE h) (fun v64 h => ?_)) ⟨rfl, rfl⟩
        conv => whnf
        refine ALoop.unroll tab_ok mixed_ (kn := fun st => ALoop Try.prog tab _ _ _ _ st _) (fun _ h => h) ?_
        conv => whnf
        refine ASeq.go tab_ok mixed_ ?_
        conv => whnf
        refine XSplit.tt rfl ?_
        conv => whnf
        refine ASeq.go tab_ok mixed_ ?_
        conv => whnf
        refine XNeed.mk (of_decide_eq_true rfl) ?_
        conv => whnf
        refine ACalls.inn (c_pack_Encode_2_p (W.bindE h) (fun v65 h => ?_)) ⟨rfl, rfl⟩
        conv => whnf
        refine ALoop.unroll tab_ok mixed_ (kn := fun st => ALoop Try.prog tab _ _ _ _ st _) (fun _ h => h) ?_
        conv => whnf
        refine ASeq.go tab_ok mixed_ ?_
        conv => whnf
        refine XSplit.tt rfl ?_
        conv => whnf
        refine ASeq.go tab_ok mixed_ ?_
        conv => whnf
        refine XNeed.mk (of_decide_eq_true rfl) ?_
        conv => whnf
        refine ACalls.inn (c_pack_Encode_2_p (W.bindE h) (fun v66 h => ?_)) ⟨rfl, rfl⟩
        conv => whnf
        refine ALoop.unroll tab_ok mixed_ (kn := fun st => ALoop Try.prog tab _ _ _ _ st _) (fun _ h => h) ?_
        conv => whnf
        refine ASeq.go tab_ok mixed_ ?_
        conv => whnf
        refine XSplit.ff rfl ?_
        conv => whnf
        refine ⟨_, Weak.a ?_, h⟩; (conv => whnf); exact ⟨rfl, rfl, rfl, rfl, rfl⟩
      · replace h := XSplit.f h e
        conv => whnf
        refine ⟨_, ?_, Weak.a ?_, h⟩; exact rfl; (conv => whnf); exact ⟨rfl, rfl, rfl, rfl, rfl⟩
    · conv => whnf
      refine ACalls.inn (c_pack_Encode_1_p (W.bindE h) (fun v67 h => ?_)) ⟨rfl, rfl⟩
      conv => whnf
      refine ⟨_, Weak.a ?_, ?_, h⟩; (conv => whnf); exact ⟨rfl, rfl, rfl, rfl, rfl⟩; exact rfl

theorem c_ref05_dim {a0 : Int} {Q : Bool → Prop} {R : AV → List AB → Prop} (h : (g_ref05_dim a0).run Q) (k : ∀ r, Q r → R (.bool (r)) ([])) : ACalls Try.prog tab 83 [.int .i64 (a0)] [] R := by
  refine ACalls.out (fun r => .bool (r)) (fun r => []) (Q := Q) (ACalls.introX (mv := mv) tab_ok mixed_ (fn := Try.f83) (by kernel_rfl) rfl (by kernel_rfl) (by kernel_rfl) (Nat.le_of_ble_eq_true rfl) ?_) (fun v => by first | exact ⟨rfl, Nat.le_of_ble_eq_true rfl⟩ | (cases v <;> exact ⟨rfl, Nat.le_of_ble_eq_true rfl⟩)) k
  conv => whnf
  refine ⟨_, Weak.a ?_, ?_, h⟩; (conv => whnf); exact ⟨rfl, rfl, rfl, rfl, rfl⟩; exact rfl

theorem c_ref05_Valid {a0 : Int} {a1 : Int} {a2 : Int} {Q : Bool → Prop} {R : AV → List AB → Prop} (h : (g_ref05_Valid a0 a1 a2).run Q) (k : ∀ r, Q r → R (.bool (r)) ([])) : ACalls Try.prog tab 67 [.agg [.int .i64 (a0), .int .i64 (a1), .int .i64 (a2)]] [] R := by
  refine ACalls.out (fun r => .bool (r)) (fun r => []) (Q := Q) (ACalls.introX (mv := mv) tab_ok mixed_ (fn := Try.f67) (by kernel_rfl) rfl (by kernel_rfl) (by kernel_rfl) (Nat.le_of_ble_eq_true rfl) ?_) (fun v => by first | exact ⟨rfl, Nat.le_of_ble_eq_true rfl⟩ | (cases v <;> exact ⟨rfl, Nat.le_of_ble_eq_true rfl⟩)) k
  conv => whnf
  refine ASeq.joinW tab_ok mixed_ (fun v4 => ⟨[(2, .bool (v4))], [], 0, [], []⟩) h (fun Q h => ?_) (fun v4 h => ?_)
  · conv => whnf
    refine ACalls.inn (c_ref05_dim (W.bindE h) (fun v5 h => ?_)) ⟨rfl, rfl⟩
    conv => whnf
    refine XSplit.mk (fun e => ?_) (fun e => ?_)
    · replace h := XSplit.t h e
      conv => whnf
      refine ACalls.inn (c_ref05_dim (W.bindE h) (fun v6 h => ?_)) ⟨rfl, rfl⟩
      conv => whnf
      refine XSplit.mk (fun e => ?_) (fun e => ?_)
      · replace h := XSplit.t h e
        conv => whnf
        refine ACalls.inn (c_ref05_dim (W.bindE h) (fun v7 h => ?_)) ⟨rfl, rfl⟩
        conv => whnf
        refine ⟨_, Weak.a ?_, h⟩; (conv => whnf); exact ⟨rfl, rfl, rfl, rfl, rfl⟩
      · replace h := XSplit.f h e
        conv => whnf
        refine ⟨_, Weak.a ?_, h⟩; (conv => whnf); exact ⟨rfl, rfl, rfl, rfl, rfl⟩
    · replace h := XSplit.f h e
      conv => whnf
      refine ⟨_, Weak.a ?_, h⟩; (conv => whnf); exact ⟨rfl, rfl, rfl, rfl, rfl⟩
  · conv => whnf
    refine ⟨_, Weak.a ?_, ?_, h⟩; (conv => whnf); exact ⟨rfl, rfl, rfl, rfl, rfl⟩; exact rfl

theorem c_ref08_values {a0 : Int} {Q : Bool → Prop} {R : AV → List AB → Prop} (h : (g_ref08_values a0).run Q) (k : ∀ r, Q r → R (.bool (r)) ([])) : ACalls Try.prog tab 68 [.int .i64 (a0)] [] R := by
  refine ACalls.out (fun r => .bool (r)) (fun r => []) (Q := Q) (ACalls.introX (mv := mv) tab_ok mixed_ (fn := Try.f68) (by kernel_rfl) rfl (by kernel_rfl) (by kernel_rfl) (Nat.le_of_ble_eq_true rfl) ?_) (fun v => by first | exact ⟨rfl, Nat.le_of_ble_eq_true rfl⟩ | (cases v <;> exact ⟨rfl, Nat.le_of_ble_eq_true rfl⟩)) k
  conv => whnf
  refine ⟨_, Weak.a ?_, ?_, h⟩; (conv => whnf); exact ⟨rfl, rfl, rfl, rfl, rfl⟩; exact rfl

theorem c_ref08_Weighs {a0 : Int} {Q : Bool → Prop} {R : AV → List AB → Prop} (h : (g_ref08_Weighs a0).run Q) (k : ∀ r, Q r → R (.bool (r)) ([])) : ACalls Try.prog tab 94 [.int .i64 (a0)] [] R := by
  refine ACalls.out (fun r => .bool (r)) (fun r => []) (Q := Q) (ACalls.introX (mv := mv) tab_ok mixed_ (fn := Try.f94) (by kernel_rfl) rfl (by kernel_rfl) (by kernel_rfl) (Nat.le_of_ble_eq_true rfl) ?_) (fun v => by first | exact ⟨rfl, Nat.le_of_ble_eq_true rfl⟩ | (cases v <;> exact ⟨rfl, Nat.le_of_ble_eq_true rfl⟩)) k
  conv => whnf
  refine ⟨_, Weak.a ?_, ?_, h⟩; (conv => whnf); exact ⟨rfl, rfl, rfl, rfl, rfl⟩; exact rfl

theorem c_ref08_Scales {a0 : Int} {Q : Bool → Prop} {R : AV → List AB → Prop} (h : (g_ref08_Scales a0).run Q) (k : ∀ r, Q r → R (.bool (r)) ([])) : ACalls Try.prog tab 89 [.int .i64 (a0)] [] R := by
  refine ACalls.out (fun r => .bool (r)) (fun r => []) (Q := Q) (ACalls.introX (mv := mv) tab_ok mixed_ (fn := Try.f89) (by kernel_rfl) rfl (by kernel_rfl) (by kernel_rfl) (Nat.le_of_ble_eq_true rfl) ?_) (fun v => by first | exact ⟨rfl, Nat.le_of_ble_eq_true rfl⟩ | (cases v <;> exact ⟨rfl, Nat.le_of_ble_eq_true rfl⟩)) k
  conv => whnf
  refine ⟨_, Weak.a ?_, ?_, h⟩; (conv => whnf); exact ⟨rfl, rfl, rfl, rfl, rfl⟩; exact rfl

theorem c_ref08_Slides {a0 : Int} {Q : Bool → Prop} {R : AV → List AB → Prop} (h : (g_ref08_Slides a0).run Q) (k : ∀ r, Q r → R (.bool (r)) ([])) : ACalls Try.prog tab 95 [.int .i64 (a0)] [] R := by
  refine ACalls.out (fun r => .bool (r)) (fun r => []) (Q := Q) (ACalls.introX (mv := mv) tab_ok mixed_ (fn := Try.f95) (by kernel_rfl) rfl (by kernel_rfl) (by kernel_rfl) (Nat.le_of_ble_eq_true rfl) ?_) (fun v => by first | exact ⟨rfl, Nat.le_of_ble_eq_true rfl⟩ | (cases v <;> exact ⟨rfl, Nat.le_of_ble_eq_true rfl⟩)) k
  conv => whnf
  refine ⟨_, Weak.a ?_, ?_, h⟩; (conv => whnf); exact ⟨rfl, rfl, rfl, rfl, rfl⟩; exact rfl

theorem c_ref08_spare {a0 : Int} {a1 : Int} {a2 : Int} {a3 : Int} {a4 : Int} {a5 : Int} {a6 : Int} {a7 : Int} {a8 : Int} {a9 : Int} {a10 : Int} {a11 : Int} {a12 : Bool} {a13 : Rws} {a14 : Bool} {a15 : Rws} {a16 : Int} {a17 : Int} {a18 : Int} {a19 : Int} {a20 : Int} {a21 : Int} {a22 : Int} {a23 : Int} {Q : Bool → Prop} {R : AV → List AB → Prop} (h : (g_ref08_spare a0 a1 a2 a3 a4 a5 a6 a7 a8 a9 a10 a11 a12 a13 a14 a15 a16 a17 a18 a19 a20 a21 a22 a23).run Q) (k : ∀ r, Q r → R (.bool (r)) ([])) : ACalls Try.prog tab 84 [.agg [.int .i64 (a0), .int .i64 (a1), .int .i64 (a2), .int .i64 (a3), .int .i64 (a4), .int .i64 (a5), .int .i64 (a6), .int .i64 (a7), .int .i64 (a8), .int .i64 (a9), .int .i64 (a10), .int .i64 (a11), .sl (a12) 51 (a13), .sl (a14) 21 (a15), .int .i64 (a16), .int .i64 (a17), .int .i64 (a18), .int .i64 (a19), .int .i64 (a20), .int .i64 (a21), .int .i64 (a22), .int .i64 (a23)]] [] R := by
  refine ACalls.out (fun r => .bool (r)) (fun r => []) (Q := Q) (ACalls.introX (mv := mv) tab_ok mixed_ (fn := Try.f84) (by kernel_rfl) rfl (by kernel_rfl) (by kernel_rfl) (Nat.le_of_ble_eq_true rfl) ?_) (fun v => by first | exact ⟨rfl, Nat.le_of_ble_eq_true rfl⟩ | (cases v <;> exact ⟨rfl, Nat.le_of_ble_eq_true rfl⟩)) k
  conv => whnf
  refine ASeq.go tab_ok mixed_ ?_
  conv => whnf
  refine XSplit.mk (fun e => ?_) (fun e => ?_)
  · replace h := XSplit.t h e
    conv => whnf
    refine ⟨_, Weak.a ?_, ?_, h⟩; (conv => whnf); exact ⟨rfl, rfl, rfl, rfl, rfl⟩; exact rfl
  · replace h := XSplit.f h e
    conv => whnf
    refine ASeq.go tab_ok mixed_ ?_
    conv => whnf
    refine ASeq.joinW tab_ok mixed_ (fun v4 => ⟨[(1, .ptr 0 0), (2, .kb false), (3, .ptr 1 0), (60, .bool (v4))], [(0, .box 50 [.int .i64 (a0), .int .i64 (a1), .int .i64 (a2), .int .i64 (a3), .int .i64 (a4), .int .i64 (a5), .int .i64 (a6), .int .i64 (a7), .int .i64 (a8), .int .i64 (a9), .int .i64 (a10), .int .i64 (a11), .sl (a12) 51 (a13), .sl (a14) 21 (a15), .int .i64 (a16), .int .i64 (a17), .int .i64 (a18), .int .i64 (a19), .int .i64 (a20), .int .i64 (a21), .int .i64 (a22), .int .i64 (a23)]), (1, .box 44 [.int .i64 (a4), .int .i64 (a5), .int .i64 (a6), .int .i64 (a7), .int .i64 (a8), .int .i64 (a9), .int .i64 (a10), .int .i64 (a11)])], 2, [], []⟩) h (fun Q h => ?_) (fun v4 h => ?_)
    · conv => whnf
      refine XSplit.mk (fun e => ?_) (fun e => ?_)
      · replace h := XSplit.t h e
        conv => whnf
        refine ⟨_, Weak.a ?_, h⟩; (conv => whnf); exact ⟨rfl, rfl, rfl, rfl, rfl⟩
      · replace h := XSplit.f h e
        conv => whnf
        refine ACalls.inn (c_ref08_Weighs (W.bindE h) (fun v5 h => ?_)) ⟨rfl, rfl⟩
        conv => whnf
        refine XSplit.mk (fun e => ?_) (fun e => ?_)
        · replace h := XSplit.t h e
          conv => whnf
          refine ⟨_, Weak.a ?_, h⟩; (conv => whnf); exact ⟨rfl, rfl, rfl, rfl, rfl⟩
        · replace h := XSplit.f h e
          conv => whnf
          refine ACalls.inn (c_ref08_Scales (W.bindE h) (fun v6 h => ?_)) ⟨rfl, rfl⟩
          conv => whnf
          refine ⟨_, Weak.a ?_, h⟩; (conv => whnf); exact ⟨rfl, rfl, rfl, rfl, rfl⟩
    · conv => whnf
      refine XSplit.mk (fun e => ?_) (fun e => ?_)
      · replace h := XSplit.t h e
        conv => whnf
        refine ⟨_, Weak.a ?_, ?_, h⟩; (conv => whnf); exact ⟨rfl, rfl, rfl, rfl, rfl⟩; exact rfl
      · replace h := XSplit.f h e
        conv => whnf
        refine ASeq.go tab_ok mixed_ ?_
        conv => whnf
        refine ACalls.inn (c_ref08_Slides (W.bindE h) (fun v7 h => ?_)) ⟨rfl, rfl⟩
        conv => whnf
        refine XSplit.mk (fun e => ?_) (fun e => ?_)
        · replace h := XSplit.t h e
          conv => whnf
          refine ⟨_, Weak.a ?_, ?_, h⟩; (conv => whnf); exact ⟨rfl, rfl, rfl, rfl, rfl⟩; exact rfl
        · replace h := XSplit.f h e
          conv => whnf
          refine ⟨_, Weak.a ?_, ?_, h⟩; (conv => whnf); exact ⟨rfl, rfl, rfl, rfl, rfl⟩; exact rfl

theorem c_ref06_in {a0 : Int} {a1 : Int} {a2 : Int} {Q : Bool → Prop} {R : AV → List AB → Prop} (h : (g_ref06_in a0 a1 a2).run Q) (k : ∀ r, Q r → R (.bool (r)) ([])) : ACalls Try.prog tab 102 [.int .i64 (a0), .int .i64 (a1), .int .i64 (a2)] [] R := by
  refine ACalls.out (fun r => .bool (r)) (fun r => []) (Q := Q) (ACalls.introX (mv := mv) tab_ok mixed_ (fn := Try.f102) (by kernel_rfl) rfl (by kernel_rfl) (by kernel_rfl) (Nat.le_of_ble_eq_true rfl) ?_) (fun v => by first | exact ⟨rfl, Nat.le_of_ble_eq_true rfl⟩ | (cases v <;> exact ⟨rfl, Nat.le_of_ble_eq_true rfl⟩)) k
  conv => whnf
  refine ⟨_, Weak.a ?_, ?_, h⟩; (conv => whnf); exact ⟨rfl, rfl, rfl, rfl, rfl⟩; exact rfl
end Go.Proofs.Ytpoakneeceaooaa.V09

set_option linter.unusedVariables false
set_option maxRecDepth 100000
set_option maxHeartbeats 0
namespace Go.Proofs.Ytpoakneeceaooaa.V09
open Go.Proofs Go.Proofs.Ytpoakneeceaooaa.VX
theorem c_ref06_Valid {a0 : Int} {a1 : Int} {a2 : Int} {a3 : Int} {a4 : Int} {a5 : Int} {a6 : Int} {a7 : Int} {Q : Bool → Prop} {R : AV → List AB → Prop} (h : (g_ref06_Valid a0 a1 a2 a3 a4 a5 a6 a7).run Q) (k : ∀ r, Q r → R (.bool (r)) ([])) : ACalls Try.prog tab 99 [.agg [.int .i64 (a0), .int .i64 (a1), .int .i64 (a2), .int .i64 (a3), .int .i64 (a4), .int .i64 (a5), .int .i64 (a6), .int .i64 (a7)]] [] R := by
  refine ACalls.out (fun r => .bool (r)) (fun r => []) (Q := Q) (ACalls.introX (mv := mv) tab_ok mixed_ (fn := Try.f99) (by kernel_rfl) rfl (by kernel_rfl) (by kernel_rfl) (Nat.le_of_ble_eq_true rfl) ?_) (fun v => by first | exact ⟨rfl, Nat.le_of_ble_eq_true rfl⟩ | (cases v <;> exact ⟨rfl, Nat.le_of_ble_eq_true rfl⟩)) k
  conv => whnf
  refine ASeq.joinW tab_ok mixed_ (fun v9 => ⟨[(2, .bool (v9))], [], 0, [], []⟩) h (fun Q h => ?_) (fun v9 h => ?_)
  · conv => whnf
    refine ACalls.inn (c_ref06_in (W.bindE h) (fun v10 h => ?_)) ⟨rfl, rfl⟩
    conv => whnf
    refine XSplit.mk (fun e => ?_) (fun e => ?_)
    · replace h := XSplit.t h e
      conv => whnf
      refine ACalls.inn (c_ref06_in (W.bindE h) (fun v11 h => ?_)) ⟨rfl, rfl⟩
      conv => whnf
      refine XSplit.mk (fun e => ?_) (fun e => ?_)
      · replace h := XSplit.t h e
        conv => whnf
        refine ACalls.inn (c_ref06_in (W.bindE h) (fun v12 h => ?_)) ⟨rfl, rfl⟩
        conv => whnf
        refine XSplit.mk (fun e => ?_) (fun e => ?_)
        · replace h := XSplit.t h e
          conv => whnf
          refine ACalls.inn (c_ref06_in (W.bindE h) (fun v13 h => ?_)) ⟨rfl, rfl⟩
          conv => whnf
          refine XSplit.mk (fun e => ?_) (fun e => ?_)
          · replace h := XSplit.t h e
            conv => whnf
            refine ACalls.inn (c_ref06_in (W.bindE h) (fun v14 h => ?_)) ⟨rfl, rfl⟩
            conv => whnf
            refine XSplit.mk (fun e => ?_) (fun e => ?_)
            · replace h := XSplit.t h e
              conv => whnf
              refine ACalls.inn (c_ref06_in (W.bindE h) (fun v15 h => ?_)) ⟨rfl, rfl⟩
              conv => whnf
              refine XSplit.mk (fun e => ?_) (fun e => ?_)
              · replace h := XSplit.t h e
                conv => whnf
                refine ACalls.inn (c_ref06_in (W.bindE h) (fun v16 h => ?_)) ⟨rfl, rfl⟩
                conv => whnf
                refine XSplit.mk (fun e => ?_) (fun e => ?_)
                · replace h := XSplit.t h e
                  conv => whnf
                  refine ACalls.inn (c_ref06_in (W.bindE h) (fun v17 h => ?_)) ⟨rfl, rfl⟩
                  conv => whnf
                  refine ⟨_, Weak.a ?_, h⟩; (conv => whnf); exact ⟨rfl, rfl, rfl, rfl, rfl⟩
                · replace h := XSplit.f h e
                  conv => whnf
                  refine ⟨_, Weak.a ?_, h⟩; (conv => whnf); exact ⟨rfl, rfl, rfl, rfl, rfl⟩
              · replace h := XSplit.f h e
                conv => whnf
                refine ⟨_, Weak.a ?_, h⟩; (conv => whnf); exact ⟨rfl, rfl, rfl, rfl, rfl⟩
            · replace h := XSplit.f h e
              conv => whnf
              refine ⟨_, Weak.a ?_, h⟩; (conv => whnf); exact ⟨rfl, rfl, rfl, rfl, rfl⟩
          · replace h := XSplit.f h e
            conv => whnf
            refine ⟨_, Weak.a ?_, h⟩; (conv => whnf); exact ⟨rfl, rfl, rfl, rfl, rfl⟩
        · replace h := XSplit.f h e
          conv => whnf
          refine ⟨_, Weak.a ?_, h⟩; (conv => whnf); exact ⟨rfl, rfl, rfl, rfl, rfl⟩
      · replace h := XSplit.f h e
        conv => whnf
        refine ⟨_, Weak.a ?_, h⟩; (conv => whnf); exact ⟨rfl, rfl, rfl, rfl, rfl⟩
    · replace h := XSplit.f h e
      conv => whnf
      refine ⟨_, Weak.a ?_, h⟩; (conv => whnf); exact ⟨rfl, rfl, rfl, rfl, rfl⟩
  · conv => whnf
    refine ⟨_, Weak.a ?_, ?_, h⟩; (conv => whnf); exact ⟨rfl, rfl, rfl, rfl, rfl⟩; exact rfl

theorem c_ref06_count {a0 : Int} {a1 : Int} {a2 : Int} {Q : Int → Prop} {R : AV → List AB → Prop} (h : (g_ref06_count a0 a1 a2).run Q) (k : ∀ r, Q r → R (.int .i64 (r)) ([])) : ACalls Try.prog tab 100 [.int .i64 (a0), .int .i64 (a1), .int .i64 (a2)] [] R := by
  refine ACalls.out (fun r => .int .i64 (r)) (fun r => []) (Q := Q) (ACalls.introX (mv := mv) tab_ok mixed_ (fn := Try.f100) (by kernel_rfl) rfl (by kernel_rfl) (by kernel_rfl) (Nat.le_of_ble_eq_true rfl) ?_) (fun v => by first | exact ⟨rfl, Nat.le_of_ble_eq_true rfl⟩ | (cases v <;> exact ⟨rfl, Nat.le_of_ble_eq_true rfl⟩)) k
  conv => whnf
  refine ASeq.go tab_ok mixed_ ?_
  conv => whnf
  refine ALoop.ofW tab_ok mixed_ (fun v2 => ⟨[(0, .int .i64 (a0)), (1, .int .i64 (a1)), (2, .int .i64 (a2)), (6, .int .i64 (0)), (7, .int .i64 (v2.fst)), (8, .int .i64 (v2.snd))], [], 0, [], []⟩) (fun v3 => (.exit 0, ⟨[(6, .int .i64 (0)), (7, .int .i64 (v3))], [], 0, [], []⟩)) (W.bindE h) (Weak.a ?_) (fun v2 J_ Q h => ?_) (fun v3 h => ?_)
  · conv => whnf
    exact ⟨rfl, rfl, rfl, rfl, rfl⟩
  · conv => whnf
    refine ASeq.go tab_ok mixed_ ?_
    conv => whnf
    refine XSplit.mk (fun e => ?_) (fun e => ?_)
    · replace h := XSplit.t h e
      conv => whnf
      refine ASeq.go tab_ok mixed_ ?_
      conv => whnf
      refine ⟨_, Weak.a ?_, h⟩; (conv => whnf); exact ⟨rfl, rfl, rfl, rfl, rfl⟩
    · replace h := XSplit.f h e
      conv => whnf
      refine ⟨_, ?_, Weak.a ?_, h⟩; exact rfl; (conv => whnf); exact ⟨rfl, rfl, rfl, rfl, rfl⟩
  · conv => whnf
    refine ⟨_, Weak.a ?_, ?_, h⟩; (conv => whnf); exact ⟨rfl, rfl, rfl, rfl, rfl⟩; exact rfl

theorem c_ref06_Out {a0 : Int} {a1 : Int} {a2 : Int} {a3 : Int} {a4 : Int} {a5 : Int} {a6 : Int} {a7 : Int} {a8 : Int} {a9 : Int} {a10 : Int} {Q : Int × Int × Int → Prop} {R : AV → List AB → Prop} (h : (g_ref06_Out a0 a1 a2 a3 a4 a5 a6 a7 a8 a9 a10).run Q) (k : ∀ r, Q r → R (.tup [.int .i64 (r.fst), .int .i64 (r.snd.fst), .int .i64 (r.snd.snd)]) ([])) : ACalls Try.prog tab 96 [.agg [.int .i64 (a0), .int .i64 (a1), .int .i64 (a2)], .agg [.int .i64 (a3), .int .i64 (a4), .int .i64 (a5), .int .i64 (a6), .int .i64 (a7), .int .i64 (a8), .int .i64 (a9), .int .i64 (a10)]] [] R := by
  refine ACalls.out (fun r => .tup [.int .i64 (r.fst), .int .i64 (r.snd.fst), .int .i64 (r.snd.snd)]) (fun r => []) (Q := Q) (ACalls.introX (mv := mv) tab_ok mixed_ (fn := Try.f96) (by kernel_rfl) rfl (by kernel_rfl) (by kernel_rfl) (Nat.le_of_ble_eq_true rfl) ?_) (fun v => by first | exact ⟨rfl, Nat.le_of_ble_eq_true rfl⟩ | (cases v <;> exact ⟨rfl, Nat.le_of_ble_eq_true rfl⟩)) k
  conv => whnf
  refine ASeq.go tab_ok mixed_ ?_
  conv => whnf
  refine ACalls.inn (c_ref05_Valid (W.bindE h) (fun v4 h => ?_)) ⟨rfl, rfl⟩
  conv => whnf
  refine XSplit.mk (fun e => ?_) (fun e => ?_)
  · replace h := XSplit.t h e
    conv => whnf
    refine ⟨_, Weak.a ?_, ?_, h⟩; (conv => whnf); exact ⟨rfl, rfl, rfl, rfl, rfl⟩; exact rfl
  · replace h := XSplit.f h e
    conv => whnf
    refine ASeq.go tab_ok mixed_ ?_
    conv => whnf
    refine ACalls.inn (c_ref06_Valid (W.bindE h) (fun v5 h => ?_)) ⟨rfl, rfl⟩
    conv => whnf
    refine XSplit.mk (fun e => ?_) (fun e => ?_)
    · replace h := XSplit.t h e
      conv => whnf
      refine ⟨_, Weak.a ?_, ?_, h⟩; (conv => whnf); exact ⟨rfl, rfl, rfl, rfl, rfl⟩; exact rfl
    · replace h := XSplit.f h e
      conv => whnf
      refine ACalls.inn (c_ref06_count (W.bindE h) (fun v6 h => ?_)) ⟨rfl, rfl⟩
      conv => whnf
      refine ACalls.inn (c_ref06_count (W.bindE h) (fun v7 h => ?_)) ⟨rfl, rfl⟩
      conv => whnf
      refine ASeq.go tab_ok mixed_ ?_
      conv => whnf
      refine XSplit.mk (fun e => ?_) (fun e => ?_)
      · replace h := XSplit.t h e
        conv => whnf
        refine ⟨_, Weak.a ?_, ?_, h⟩; (conv => whnf); exact ⟨rfl, rfl, rfl, rfl, rfl⟩; exact rfl
      · replace h := XSplit.f h e
        conv => whnf
        refine ⟨_, Weak.a ?_, ?_, h⟩; (conv => whnf); exact ⟨rfl, rfl, rfl, rfl, rfl⟩; exact rfl

theorem c_ref08_Makes {a0 : Int} {a1 : Int} {a2 : Int} {a3 : Int} {a4 : Int} {a5 : Int} {a6 : Int} {a7 : Int} {a8 : Int} {a9 : Int} {a10 : Int} {a11 : Int} {a12 : Bool} {a13 : Rws} {a14 : Bool} {a15 : Rws} {a16 : Int} {a17 : Int} {a18 : Int} {a19 : Int} {a20 : Int} {a21 : Int} {a22 : Int} {a23 : Int} {a24 : Int} {a25 : Int} {a26 : Int} {Q : Int × Int × Int × Int → Prop} {R : AV → List AB → Prop} (h : (g_ref08_Makes a0 a1 a2 a3 a4 a5 a6 a7 a8 a9 a10 a11 a12 a13 a14 a15 a16 a17 a18 a19 a20 a21 a22 a23 a24 a25 a26).run Q) (k : ∀ r, Q r → R (.tup [.agg [.int .i64 (r.fst), .int .i64 (r.snd.fst), .int .i64 (r.snd.snd.fst)], .int .i64 (r.snd.snd.snd)]) ([])) : ACalls Try.prog tab 85 [.agg [.int .i64 (a0), .int .i64 (a1), .int .i64 (a2), .int .i64 (a3), .int .i64 (a4), .int .i64 (a5), .int .i64 (a6), .int .i64 (a7), .int .i64 (a8), .int .i64 (a9), .int .i64 (a10), .int .i64 (a11), .sl (a12) 51 (a13), .sl (a14) 21 (a15), .int .i64 (a16), .int .i64 (a17), .int .i64 (a18), .int .i64 (a19), .int .i64 (a20), .int .i64 (a21), .int .i64 (a22), .int .i64 (a23)], .agg [.int .i64 (a24), .int .i64 (a25), .int .i64 (a26)]] [] R := by
  refine ACalls.out (fun r => .tup [.agg [.int .i64 (r.fst), .int .i64 (r.snd.fst), .int .i64 (r.snd.snd.fst)], .int .i64 (r.snd.snd.snd)]) (fun r => []) (Q := Q) (ACalls.introX (mv := mv) tab_ok mixed_ (fn := Try.f85) (by kernel_rfl) rfl (by kernel_rfl) (by kernel_rfl) (Nat.le_of_ble_eq_true rfl) ?_) (fun v => by first | exact ⟨rfl, Nat.le_of_ble_eq_true rfl⟩ | (cases v <;> exact ⟨rfl, Nat.le_of_ble_eq_true rfl⟩)) k
  conv => whnf
  refine ASeq.joinW tab_ok mixed_ (fun v4 => ⟨[(2, .ptr 0 0), (3, .ptr 1 0), (4, .ptr 2 0), (5, .int .i64 (0)), (6, .ptr 3 0)], [(0, .box 50 [.int .i64 (a0), .int .i64 (a1), .int .i64 (a2), .int .i64 (a3), .int .i64 (a4), .int .i64 (a5), .int .i64 (a6), .int .i64 (a7), .int .i64 (a8), .int .i64 (a9), .int .i64 (a10), .int .i64 (a11), .sl (a12) 51 (a13), .sl (a14) 21 (a15), .int .i64 (a16), .int .i64 (a17), .int .i64 (a18), .int .i64 (a19), .int .i64 (a20), .int .i64 (a21), .int .i64 (a22), .int .i64 (a23)]), (1, .box 23 [.int .i64 (a24), .int .i64 (a25), .int .i64 (a26)]), (2, .box 23 [.int .i64 (0), .int .i64 (0), .int .i64 (0)]), (3, .box 23 [.int .i64 (v4.fst), .int .i64 (v4.snd.fst), .int .i64 (v4.snd.snd)])], 4, [], []⟩) h (fun Q h => ?_) (fun v4 h => ?_)
  · conv => whnf
    refine XSplit.mk (fun e => ?_) (fun e => ?_)
    · replace h := XSplit.t h e
      conv => whnf
      refine ⟨_, Weak.a ?_, h⟩; (conv => whnf); exact ⟨rfl, rfl, rfl, rfl, rfl⟩
    · replace h := XSplit.f h e
      conv => whnf
      refine ⟨_, Weak.a ?_, h⟩; (conv => whnf); exact ⟨rfl, rfl, rfl, rfl, rfl⟩
  · conv => whnf
    refine ASeq.joinE tab_ok mixed_ (fun v5 => ⟨[(4, .ptr 0 0), (5, .int .i64 (0)), (6, .ptr 1 0)], [(0, .box 23 [.int .i64 (0), .int .i64 (0), .int .i64 (0)]), (1, .box 23 [.int .i64 (v5.fst), .int .i64 (v5.snd.fst), .int .i64 (v5.snd.snd)])], 2, [], []⟩) h (fun Q h => ?_) (fun v5 h => ?_)
    · conv => whnf
      refine ACalls.inn (c_ref08_Slides (W.bindE h) (fun v6 h => ?_)) ⟨rfl, rfl⟩
      conv => whnf
      refine XSplit.mk (fun e => ?_) (fun e => ?_)
      · replace h := XSplit.t h e
        conv => whnf
        refine ACalls.inn (c_ref06_Out (W.bindE h) (fun v7 h => ?_)) ⟨rfl, rfl⟩
        conv => whnf
        refine ASeq.go tab_ok mixed_ ?_
        conv => whnf
        refine XSplit.mk (fun e => ?_) (fun e => ?_)
        · replace h := XSplit.t h e
          conv => whnf
          refine ⟨_, Weak.a ?_, ?_, h⟩; (conv => whnf); exact ⟨rfl, rfl, rfl, rfl, rfl⟩; exact rfl
        · replace h := XSplit.f h e
          conv => whnf
          refine XSplit.mk (fun e => ?_) (fun e => ?_)
          · replace h := XSplit.t h e
            conv => whnf
            refine ⟨_, Weak.a ?_, h⟩; (conv => whnf); exact ⟨rfl, rfl, rfl, rfl, rfl⟩
          · replace h := XSplit.f h e
            conv => whnf
            refine ⟨_, Weak.a ?_, h⟩; (conv => whnf); exact ⟨rfl, rfl, rfl, rfl, rfl⟩
      · replace h := XSplit.f h e
        conv => whnf
        refine ⟨_, Weak.a ?_, h⟩; (conv => whnf); exact ⟨rfl, rfl, rfl, rfl, rfl⟩
    · conv => whnf
      refine ⟨_, Weak.a ?_, ?_, h⟩; (conv => whnf); exact ⟨rfl, rfl, rfl, rfl, rfl⟩; exact rfl

theorem c_ref08_Reduces {a0 : Int} {Q : Bool → Prop} {R : AV → List AB → Prop} (h : (g_ref08_Reduces a0).run Q) (k : ∀ r, Q r → R (.bool (r)) ([])) : ACalls Try.prog tab 86 [.int .i64 (a0)] [] R := by
  refine ACalls.out (fun r => .bool (r)) (fun r => []) (Q := Q) (ACalls.introX (mv := mv) tab_ok mixed_ (fn := Try.f86) (by kernel_rfl) rfl (by kernel_rfl) (by kernel_rfl) (Nat.le_of_ble_eq_true rfl) ?_) (fun v => by first | exact ⟨rfl, Nat.le_of_ble_eq_true rfl⟩ | (cases v <;> exact ⟨rfl, Nat.le_of_ble_eq_true rfl⟩)) k
  conv => whnf
  refine ⟨_, Weak.a ?_, ?_, h⟩; (conv => whnf); exact ⟨rfl, rfl, rfl, rfl, rfl⟩; exact rfl

theorem c_ref08_Length {a0 : Int} {a1 : Int} {a2 : Int} {a3 : Int} {a4 : Int} {a5 : Int} {a6 : Int} {a7 : Int} {a8 : Int} {a9 : Int} {a10 : Int} {a11 : Int} {a12 : Bool} {a13 : Rws} {a14 : Bool} {a15 : Rws} {a16 : Int} {a17 : Int} {a18 : Int} {a19 : Int} {a20 : Int} {a21 : Int} {a22 : Int} {a23 : Int} {a24 : Int} {a25 : Int} {a26 : Int} {Q : Int → Prop} {R : AV → List AB → Prop} (h : (g_ref08_Length a0 a1 a2 a3 a4 a5 a6 a7 a8 a9 a10 a11 a12 a13 a14 a15 a16 a17 a18 a19 a20 a21 a22 a23 a24 a25 a26).run Q) (k : ∀ r, Q r → R (.int .i64 (r)) ([])) : ACalls Try.prog tab 87 [.agg [.int .i64 (a0), .int .i64 (a1), .int .i64 (a2), .int .i64 (a3), .int .i64 (a4), .int .i64 (a5), .int .i64 (a6), .int .i64 (a7), .int .i64 (a8), .int .i64 (a9), .int .i64 (a10), .int .i64 (a11), .sl (a12) 51 (a13), .sl (a14) 21 (a15), .int .i64 (a16), .int .i64 (a17), .int .i64 (a18), .int .i64 (a19), .int .i64 (a20), .int .i64 (a21), .int .i64 (a22), .int .i64 (a23)], .agg [.int .i64 (a24), .int .i64 (a25), .int .i64 (a26)]] [] R := by
  refine ACalls.out (fun r => .int .i64 (r)) (fun r => []) (Q := Q) (ACalls.introX (mv := mv) tab_ok mixed_ (fn := Try.f87) (by kernel_rfl) rfl (by kernel_rfl) (by kernel_rfl) (Nat.le_of_ble_eq_true rfl) ?_) (fun v => by first | exact ⟨rfl, Nat.le_of_ble_eq_true rfl⟩ | (cases v <;> exact ⟨rfl, Nat.le_of_ble_eq_true rfl⟩)) k
  conv => whnf
  refine ASeq.go tab_ok mixed_ ?_
  conv => whnf
  refine XSplit.mk (fun e => ?_) (fun e => ?_)
  · replace h := XSplit.t h e
    conv => whnf
    refine ⟨_, Weak.a ?_, ?_, h⟩; (conv => whnf); exact ⟨rfl, rfl, rfl, rfl, rfl⟩; exact rfl
  · replace h := XSplit.f h e
    conv => whnf
    refine XSplit.mk (fun e => ?_) (fun e => ?_)
    · replace h := XSplit.t h e
      conv => whnf
      refine ⟨_, Weak.a ?_, ?_, h⟩; (conv => whnf); exact ⟨rfl, rfl, rfl, rfl, rfl⟩; exact rfl
    · replace h := XSplit.f h e
      conv => whnf
      refine ⟨_, Weak.a ?_, ?_, h⟩; (conv => whnf); exact ⟨rfl, rfl, rfl, rfl, rfl⟩; exact rfl

theorem c_ref08_Lists {a0 : Int} {a1 : Int} {a2 : Int} {a3 : Int} {a4 : Int} {a5 : Int} {a6 : Int} {a7 : Int} {a8 : Int} {a9 : Int} {a10 : Int} {a11 : Int} {a12 : Bool} {a13 : Rws} {a14 : Bool} {a15 : Rws} {a16 : Int} {a17 : Int} {a18 : Int} {a19 : Int} {a20 : Int} {a21 : Int} {a22 : Int} {a23 : Int} {a24 : Int} {a25 : Int} {a26 : Int} {Q : Int × Int → Prop} {R : AV → List AB → Prop} (h : (g_ref08_Lists a0 a1 a2 a3 a4 a5 a6 a7 a8 a9 a10 a11 a12 a13 a14 a15 a16 a17 a18 a19 a20 a21 a22 a23 a24 a25 a26).run Q) (k : ∀ r, Q r → R (.tup [.int .i64 (r.fst), .int .i64 (r.snd)]) ([])) : ACalls Try.prog tab 88 [.agg [.int .i64 (a0), .int .i64 (a1), .int .i64 (a2), .int .i64 (a3), .int .i64 (a4), .int .i64 (a5), .int .i64 (a6), .int .i64 (a7), .int .i64 (a8), .int .i64 (a9), .int .i64 (a10), .int .i64 (a11), .sl (a12) 51 (a13), .sl (a14) 21 (a15), .int .i64 (a16), .int .i64 (a17), .int .i64 (a18), .int .i64 (a19), .int .i64 (a20), .int .i64 (a21), .int .i64 (a22), .int .i64 (a23)], .agg [.int .i64 (a24), .int .i64 (a25), .int .i64 (a26)]] [] R := by
  refine ACalls.out (fun r => .tup [.int .i64 (r.fst), .int .i64 (r.snd)]) (fun r => []) (Q := Q) (ACalls.introX (mv := mv) tab_ok mixed_ (fn := Try.f88) (by kernel_rfl) rfl (by kernel_rfl) (by kernel_rfl) (Nat.le_of_ble_eq_true rfl) ?_) (fun v => by first | exact ⟨rfl, Nat.le_of_ble_eq_true rfl⟩ | (cases v <;> exact ⟨rfl, Nat.le_of_ble_eq_true rfl⟩)) k
  conv => whnf
  refine ASeq.go tab_ok mixed_ ?_
  conv => whnf
  refine ASeq.joinW tab_ok mixed_ (fun v3 => ⟨[(2, .ptr 0 0), (3, .ptr 1 0), (4, .int .i64 (0)), (5, .int .i64 (0)), (7, .int .i64 (a0)), (8, .bool (v3))], [(0, .box 50 [.int .i64 (a0), .int .i64 (a1), .int .i64 (a2), .int .i64 (a3), .int .i64 (a4), .int .i64 (a5), .int .i64 (a6), .int .i64 (a7), .int .i64 (a8), .int .i64 (a9), .int .i64 (a10), .int .i64 (a11), .sl (a12) 51 (a13), .sl (a14) 21 (a15), .int .i64 (a16), .int .i64 (a17), .int .i64 (a18), .int .i64 (a19), .int .i64 (a20), .int .i64 (a21), .int .i64 (a22), .int .i64 (a23)]), (1, .box 23 [.int .i64 (a24), .int .i64 (a25), .int .i64 (a26)])], 2, [], []⟩) h (fun Q h => ?_) (fun v3 h => ?_)
  · conv => whnf
    refine XSplit.mk (fun e => ?_) (fun e => ?_)
    · replace h := XSplit.t h e
      conv => whnf
      refine ⟨_, Weak.a ?_, h⟩; (conv => whnf); exact ⟨rfl, rfl, rfl, rfl, rfl⟩
    · replace h := XSplit.f h e
      conv => whnf
      refine ⟨_, Weak.a ?_, h⟩; (conv => whnf); exact ⟨rfl, rfl, rfl, rfl, rfl⟩
  · conv => whnf
    refine XSplit.mk (fun e => ?_) (fun e => ?_)
    · replace h := XSplit.t h e
      conv => whnf
      refine XDraw.d [0, 1, 2, 3, 6, 7, 4, 5, 8, 9] [[], [], [], [], [], [], [], [], [], []] (by decide +kernel) ?_
      conv => whnf
      refine ACalls.inn (c_ref08_Length (W.bindE h) (fun v4 h => ?_)) ⟨rfl, rfl⟩
      conv => whnf
      refine ⟨_, Weak.a ?_, ?_, h⟩; (conv => whnf); exact ⟨rfl, rfl, rfl, rfl, rfl⟩; exact rfl
    · replace h := XSplit.f h e
      conv => whnf
      refine XSplit.mk (fun e => ?_) (fun e => ?_)
      · replace h := XSplit.t h e
        conv => whnf
        refine XDraw.d [0, 1, 2, 3, 6, 7, 4, 5, 8, 9] [[], [], [], [], [], [], [], [], [], []] (by decide +kernel) ?_
        conv => whnf
        refine ACalls.inn (c_ref08_Length (W.bindE h) (fun v5 h => ?_)) ⟨rfl, rfl⟩
        conv => whnf
        refine ⟨_, Weak.a ?_, ?_, h⟩; (conv => whnf); exact ⟨rfl, rfl, rfl, rfl, rfl⟩; exact rfl
      · replace h := XSplit.f h e
        conv => whnf
        refine ⟨_, Weak.a ?_, ?_, h⟩; (conv => whnf); exact ⟨rfl, rfl, rfl, rfl, rfl⟩; exact rfl

theorem c_ref02_Valid {a0 : Int} {a1 : Int} {Q : Bool → Prop} {R : AV → List AB → Prop} (h : (g_ref02_Valid a0 a1).run Q) (k : ∀ r, Q r → R (.bool (r)) ([])) : ACalls Try.prog tab 90 [.int .i64 (a0), .int .i64 (a1)] [] R := by
  refine ACalls.out (fun r => .bool (r)) (fun r => []) (Q := Q) (ACalls.introX (mv := mv) tab_ok mixed_ (fn := Try.f90) (by kernel_rfl) rfl (by kernel_rfl) (by kernel_rfl) (Nat.le_of_ble_eq_true rfl) ?_) (fun v => by first | exact ⟨rfl, Nat.le_of_ble_eq_true rfl⟩ | (cases v <;> exact ⟨rfl, Nat.le_of_ble_eq_true rfl⟩)) k
  conv => whnf
  refine ⟨_, Weak.a ?_, ?_, h⟩; (conv => whnf); exact ⟨rfl, rfl, rfl, rfl, rfl⟩; exact rfl

theorem c_ref08_one {a0 : Int} {a1 : Int} {a2 : Int} {a3 : Int} {a4 : Int} {a5 : Int} {a6 : Int} {a7 : Int} {a8 : Int} {a9 : Int} {a10 : Int} {a11 : Int} {a12 : Bool} {a13 : Rws} {a14 : Bool} {a15 : Rws} {a16 : Int} {a17 : Int} {a18 : Int} {a19 : Int} {a20 : Int} {a21 : Int} {a22 : Int} {a23 : Int} {a24 : Int} {a25 : Bool} {a26 : Rws} {Q : Int × Int × Int × Int → Prop} {R : AV → List AB → Prop} (h : (g_ref08_one a0 a1 a2 a3 a4 a5 a6 a7 a8 a9 a10 a11 a12 a13 a14 a15 a16 a17 a18 a19 a20 a21 a22 a23 a24 a25 a26).run Q) (k : ∀ r, Q r → R (.tup [.agg [.int .i64 (r.fst), .int .i64 (r.snd.fst), .int .i64 (r.snd.snd.fst)], .int .i64 (r.snd.snd.snd)]) ([])) : ACalls Try.prog tab 69 [.agg [.int .i64 (a0), .int .i64 (a1), .int .i64 (a2), .int .i64 (a3), .int .i64 (a4), .int .i64 (a5), .int .i64 (a6), .int .i64 (a7), .int .i64 (a8), .int .i64 (a9), .int .i64 (a10), .int .i64 (a11), .sl (a12) 51 (a13), .sl (a14) 21 (a15), .int .i64 (a16), .int .i64 (a17), .int .i64 (a18), .int .i64 (a19), .int .i64 (a20), .int .i64 (a21), .int .i64 (a22), .int .i64 (a23)], .int .i64 (a24), .sl (a25) 23 (a26)] [] R := by
  refine ACalls.out (fun r => .tup [.agg [.int .i64 (r.fst), .int .i64 (r.snd.fst), .int .i64 (r.snd.snd.fst)], .int .i64 (r.snd.snd.snd)]) (fun r => []) (Q := Q) (ACalls.introX (mv := mv) tab_ok mixed_ (fn := Try.f69) (by kernel_rfl) rfl (by kernel_rfl) (by kernel_rfl) (Nat.le_of_ble_eq_true rfl) ?_) (fun v => by first | exact ⟨rfl, Nat.le_of_ble_eq_true rfl⟩ | (cases v <;> exact ⟨rfl, Nat.le_of_ble_eq_true rfl⟩)) k
  conv => whnf
  refine ASeq.go tab_ok mixed_ ?_
  conv => whnf
  refine XSplit.mk (fun e => ?_) (fun e => ?_)
  · replace h := XSplit.t h e
    conv => whnf
    refine ⟨_, Weak.a ?_, ?_, h⟩; (conv => whnf); exact ⟨rfl, rfl, rfl, rfl, rfl⟩; exact rfl
  · replace h := XSplit.f h e
    conv => whnf
    refine ASeq.go tab_ok mixed_ ?_
    conv => whnf
    refine XSplit.mk (fun e => ?_) (fun e => ?_)
    · replace h := XSplit.t h e
      conv => whnf
      refine ⟨_, Weak.a ?_, ?_, h⟩; (conv => whnf); exact ⟨rfl, rfl, rfl, rfl, rfl⟩; exact rfl
    · replace h := XSplit.f h e
      conv => whnf
      refine ASeq.go tab_ok mixed_ ?_
      conv => whnf
      refine ACalls.inn (c_ref08_spare (W.bindE h) (fun v18 h => ?_)) ⟨rfl, rfl⟩
      conv => whnf
      refine XSplit.mk (fun e => ?_) (fun e => ?_)
      · replace h := XSplit.t h e
        conv => whnf
        refine ⟨_, Weak.a ?_, ?_, h⟩; (conv => whnf); exact ⟨rfl, rfl, rfl, rfl, rfl⟩; exact rfl
      · replace h := XSplit.f h e
        conv => whnf
        refine ASeq.go tab_ok mixed_ ?_
        conv => whnf
        refine XSplit.mk (fun e => ?_) (fun e => ?_)
        · replace h := XSplit.t h e
          conv => whnf
          refine ⟨_, Weak.a ?_, ?_, h⟩; (conv => whnf); exact ⟨rfl, rfl, rfl, rfl, rfl⟩; exact rfl
        · replace h := XSplit.f h e
          conv => whnf
          refine XNeed.mk (XNeed.c h) ?_; replace h := XNeed.x h
          conv => whnf
          refine ACalls.inn (c_ref08_Makes (W.bindE h) (fun v19 h => ?_)) ⟨rfl, rfl⟩
          conv => whnf
          refine ASeq.go tab_ok mixed_ ?_
          conv => whnf
          refine XSplit.mk (fun e => ?_) (fun e => ?_)
          · replace h := XSplit.t h e
            conv => whnf
            refine ⟨_, Weak.a ?_, ?_, h⟩; (conv => whnf); exact ⟨rfl, rfl, rfl, rfl, rfl⟩; exact rfl
          · replace h := XSplit.f h e
            conv => whnf
            refine ASeq.go tab_ok mixed_ ?_
            conv => whnf
            refine ASeq.joinW tab_ok mixed_ (fun v20 => ⟨[(3, .ptr 0 0), (6, .ptr 1 0), (7, .int .i64 (0)), (8, .ptr 2 0), (9, .ptr 3 0), (97, .bool (v20))], [(0, .box 50 [.int .i64 (a0), .int .i64 (a1), .int .i64 (a2), .int .i64 (a3), .int .i64 (a4), .int .i64 (a5), .int .i64 (a6), .int .i64 (a7), .int .i64 (a8), .int .i64 (a9), .int .i64 (a10), .int .i64 (a11), .sl (a12) 51 (a13), .sl (a14) 21 (a15), .int .i64 (a16), .int .i64 (a17), .int .i64 (a18), .int .i64 (a19), .int .i64 (a20), .int .i64 (a21), .int .i64 (a22), .int .i64 (a23)]), (1, .box 23 [.int .i64 (0), .int .i64 (0), .int .i64 (0)]), (2, .box 23 [.int .i64 (ri a26 a1.toNat 0), .int .i64 (ri a26 a1.toNat 1), .int .i64 (ri a26 a1.toNat 2)]), (3, .box 23 [.int .i64 (v19.fst), .int .i64 (v19.snd.fst), .int .i64 (v19.snd.snd.fst)])], 4, [], []⟩) h (fun Q h => ?_) (fun v20 h => ?_)
            · conv => whnf
              refine XDraw.d [0, 1, 2, 3, 4, 5, 6, 7, 8, 9, 10, 11, 12, 13, 14, 15, 16] [[], [], [], [], [], [], [], [], [], [], [], [], [], [], [], [], []] (by decide +kernel) ?_
              conv => whnf
              refine XNeed.mk (XNeed.c h) ?_; replace h := XNeed.x h
              conv => whnf
              refine XSplit.mk (fun e => ?_) (fun e => ?_)
              · replace h := XSplit.t h e
                conv => whnf
                refine ⟨_, Weak.a ?_, h⟩; (conv => whnf); exact ⟨rfl, rfl, rfl, rfl, rfl⟩
              · replace h := XSplit.f h e
                conv => whnf
                refine ACalls.inn (c_ref05_Valid (W.bindE h) (fun v21 h => ?_)) ⟨rfl, rfl⟩
                conv => whnf
                refine ⟨_, Weak.a ?_, h⟩; (conv => whnf); exact ⟨rfl, rfl, rfl, rfl, rfl⟩
            · conv => whnf
              refine XSplit.mk (fun e => ?_) (fun e => ?_)
              · replace h := XSplit.t h e
                conv => whnf
                refine ⟨_, Weak.a ?_, ?_, h⟩; (conv => whnf); exact ⟨rfl, rfl, rfl, rfl, rfl⟩; exact rfl
              · replace h := XSplit.f h e
                conv => whnf
                refine ASeq.go tab_ok mixed_ ?_
                conv => whnf
                refine ASeq.joinW tab_ok mixed_ (fun v22 => ⟨[(3, .ptr 0 0), (6, .ptr 1 0), (7, .int .i64 (0)), (8, .ptr 2 0), (9, .ptr 3 0), (107, .bool (v22))], [(0, .box 50 [.int .i64 (a0), .int .i64 (a1), .int .i64 (a2), .int .i64 (a3), .int .i64 (a4), .int .i64 (a5), .int .i64 (a6), .int .i64 (a7), .int .i64 (a8), .int .i64 (a9), .int .i64 (a10), .int .i64 (a11), .sl (a12) 51 (a13), .sl (a14) 21 (a15), .int .i64 (a16), .int .i64 (a17), .int .i64 (a18), .int .i64 (a19), .int .i64 (a20), .int .i64 (a21), .int .i64 (a22), .int .i64 (a23)]), (1, .box 23 [.int .i64 (0), .int .i64 (0), .int .i64 (0)]), (2, .box 23 [.int .i64 (ri a26 a1.toNat 0), .int .i64 (ri a26 a1.toNat 1), .int .i64 (ri a26 a1.toNat 2)]), (3, .box 23 [.int .i64 (v19.fst), .int .i64 (v19.snd.fst), .int .i64 (v19.snd.snd.fst)])], 4, [], []⟩) h (fun Q h => ?_) (fun v22 h => ?_)
                · conv => whnf
                  refine ACalls.inn (c_ref08_Reduces (W.bindE h) (fun v23 h => ?_)) ⟨rfl, rfl⟩
                  conv => whnf
                  refine XSplit.mk (fun e => ?_) (fun e => ?_)
                  · replace h := XSplit.t h e
                    conv => whnf
                    refine ACalls.inn (c_ref08_Length (W.bindE h) (fun v24 h => ?_)) ⟨rfl, rfl⟩
                    conv => whnf
                    refine ⟨_, Weak.a ?_, h⟩; (conv => whnf); exact ⟨rfl, rfl, rfl, rfl, rfl⟩
                  · replace h := XSplit.f h e
                    conv => whnf
                    refine ⟨_, Weak.a ?_, h⟩; (conv => whnf); exact ⟨rfl, rfl, rfl, rfl, rfl⟩
                · conv => whnf
                  refine XSplit.mk (fun e => ?_) (fun e => ?_)
                  · replace h := XSplit.t h e
                    conv => whnf
                    refine ⟨_, Weak.a ?_, ?_, h⟩; (conv => whnf); exact ⟨rfl, rfl, rfl, rfl, rfl⟩; exact rfl
                  · replace h := XSplit.f h e
                    conv => whnf
                    refine ACalls.inn (c_ref08_Lists (W.bindE h) (fun v25 h => ?_)) ⟨rfl, rfl⟩
                    conv => whnf
                    refine ASeq.go tab_ok mixed_ ?_
                    conv => whnf
                    refine XSplit.mk (fun e => ?_) (fun e => ?_)
                    · replace h := XSplit.t h e
                      conv => whnf
                      refine ⟨_, Weak.a ?_, ?_, h⟩; (conv => whnf); exact ⟨rfl, rfl, rfl, rfl, rfl⟩; exact rfl
                    · replace h := XSplit.f h e
                      conv => whnf
                      refine ASeq.go tab_ok mixed_ ?_
                      conv => whnf
                      refine ASeq.joinW tab_ok mixed_ (fun v26 => ⟨[(3, .ptr 0 0), (6, .ptr 1 0), (7, .int .i64 (0)), (9, .ptr 2 0), (155, .bool (v26))], [(0, .box 50 [.int .i64 (a0), .int .i64 (a1), .int .i64 (a2), .int .i64 (a3), .int .i64 (a4), .int .i64 (a5), .int .i64 (a6), .int .i64 (a7), .int .i64 (a8), .int .i64 (a9), .int .i64 (a10), .int .i64 (a11), .sl (a12) 51 (a13), .sl (a14) 21 (a15), .int .i64 (a16), .int .i64 (a17), .int .i64 (a18), .int .i64 (a19), .int .i64 (a20), .int .i64 (a21), .int .i64 (a22), .int .i64 (a23)]), (1, .box 23 [.int .i64 (0), .int .i64 (0), .int .i64 (0)]), (2, .box 23 [.int .i64 (v19.fst), .int .i64 (v19.snd.fst), .int .i64 (v19.snd.snd.fst)])], 3, [], []⟩) h (fun Q h => ?_) (fun v26 h => ?_)
                      · conv => whnf
                        refine ACalls.inn (c_ref08_Scales (W.bindE h) (fun v27 h => ?_)) ⟨rfl, rfl⟩
                        conv => whnf
                        refine XSplit.mk (fun e => ?_) (fun e => ?_)
                        · replace h := XSplit.t h e
                          conv => whnf
                          refine ACalls.inn (c_ref02_Valid (W.bindE h) (fun v28 h => ?_)) ⟨rfl, rfl⟩
                          conv => whnf
                          refine XSplit.mk (fun e => ?_) (fun e => ?_)
                          · replace h := XSplit.t h e
                            conv => whnf
                            refine ⟨_, Weak.a ?_, h⟩; (conv => whnf); exact ⟨rfl, rfl, rfl, rfl, rfl⟩
                          · replace h := XSplit.f h e
                            conv => whnf
                            refine XSplit.mk (fun e => ?_) (fun e => ?_)
                            · replace h := XSplit.t h e
                              conv => whnf
                              refine ACalls.inn (c_ref02_Valid (W.bindE h) (fun v29 h => ?_)) ⟨rfl, rfl⟩
                              conv => whnf
                              refine ⟨_, Weak.a ?_, h⟩; (conv => whnf); exact ⟨rfl, rfl, rfl, rfl, rfl⟩
                            · replace h := XSplit.f h e
                              conv => whnf
                              refine ⟨_, Weak.a ?_, h⟩; (conv => whnf); exact ⟨rfl, rfl, rfl, rfl, rfl⟩
                        · replace h := XSplit.f h e
                          conv => whnf
                          refine XSplit.mk (fun e => ?_) (fun e => ?_)
                          · replace h := XSplit.t h e
                            conv => whnf
                            refine ACalls.inn (c_ref02_Valid (W.bindE h) (fun v30 h => ?_)) ⟨rfl, rfl⟩
                            conv => whnf
                            refine ⟨_, Weak.a ?_, h⟩; (conv => whnf); exact ⟨rfl, rfl, rfl, rfl, rfl⟩
                          · replace h := XSplit.f h e
                            conv => whnf
                            refine ⟨_, Weak.a ?_, h⟩; (conv => whnf); exact ⟨rfl, rfl, rfl, rfl, rfl⟩
                      · conv => whnf
                        refine XSplit.mk (fun e => ?_) (fun e => ?_)
                        · replace h := XSplit.t h e
                          conv => whnf
                          refine ⟨_, Weak.a ?_, ?_, h⟩; (conv => whnf); exact ⟨rfl, rfl, rfl, rfl, rfl⟩; exact rfl
                        · replace h := XSplit.f h e
                          conv => whnf
                          refine ASeq.go tab_ok mixed_ ?_
                          conv => whnf
                          refine ASeq.joinW tab_ok mixed_ (fun v31 => ⟨[(6, .ptr 0 0), (7, .int .i64 (0)), (9, .ptr 1 0), (185, .bool (v31))], [(0, .box 23 [.int .i64 (0), .int .i64 (0), .int .i64 (0)]), (1, .box 23 [.int .i64 (v19.fst), .int .i64 (v19.snd.fst), .int .i64 (v19.snd.snd.fst)])], 2, [], []⟩) h (fun Q h => ?_) (fun v31 h => ?_)
                          · conv => whnf
                            refine ACalls.inn (c_ref08_values (W.bindE h) (fun v32 h => ?_)) ⟨rfl, rfl⟩
                            conv => whnf
                            refine XSplit.mk (fun e => ?_) (fun e => ?_)
                            · replace h := XSplit.t h e
                              conv => whnf
                              refine ⟨_, Weak.a ?_, h⟩; (conv => whnf); exact ⟨rfl, rfl, rfl, rfl, rfl⟩
                            · replace h := XSplit.f h e
                              conv => whnf
                              refine ACalls.inn (c_ref08_values (W.bindE h) (fun v33 h => ?_)) ⟨rfl, rfl⟩
                              conv => whnf
                              refine XSplit.mk (fun e => ?_) (fun e => ?_)
                              · replace h := XSplit.t h e
                                conv => whnf
                                refine ⟨_, Weak.a ?_, h⟩; (conv => whnf); exact ⟨rfl, rfl, rfl, rfl, rfl⟩
                              · replace h := XSplit.f h e
                                conv => whnf
                                refine ACalls.inn (c_ref08_values (W.bindE h) (fun v34 h => ?_)) ⟨rfl, rfl⟩
                                conv => whnf
                                refine XSplit.mk (fun e => ?_) (fun e => ?_)
                                · replace h := XSplit.t h e
                                  conv => whnf
                                  refine ⟨_, Weak.a ?_, h⟩; (conv => whnf); exact ⟨rfl, rfl, rfl, rfl, rfl⟩
                                · replace h := XSplit.f h e
                                  conv => whnf
                                  refine ACalls.inn (c_ref08_values (W.bindE h) (fun v35 h => ?_)) ⟨rfl, rfl⟩
                                  conv => whnf
                                  refine ⟨_, Weak.a ?_, h⟩; (conv => whnf); exact ⟨rfl, rfl, rfl, rfl, rfl⟩
                          · conv => whnf
                            refine XSplit.mk (fun e => ?_) (fun e => ?_)
                            · replace h := XSplit.t h e
                              conv => whnf
                              refine ⟨_, Weak.a ?_, ?_, h⟩; (conv => whnf); exact ⟨rfl, rfl, rfl, rfl, rfl⟩; exact rfl
                            · replace h := XSplit.f h e
                              conv => whnf
                              refine ⟨_, Weak.a ?_, ?_, h⟩; (conv => whnf); exact ⟨rfl, rfl, rfl, rfl, rfl⟩; exact rfl

theorem c_ref08_Labour {a0 : Int} {a1 : Int} {a2 : Int} {a3 : Int} {a4 : Int} {a5 : Int} {a6 : Int} {a7 : Int} {a8 : Int} {a9 : Int} {a10 : Int} {a11 : Int} {a12 : Bool} {a13 : Rws} {a14 : Bool} {a15 : Rws} {a16 : Int} {a17 : Int} {a18 : Int} {a19 : Int} {a20 : Int} {a21 : Int} {a22 : Int} {a23 : Int} {a24 : Int} {a25 : Int} {a26 : Int} {a27 : Int} {a28 : Int} {a29 : Int} {Q : Int → Prop} {R : AV → List AB → Prop} (h : (g_ref08_Labour a0 a1 a2 a3 a4 a5 a6 a7 a8 a9 a10 a11 a12 a13 a14 a15 a16 a17 a18 a19 a20 a21 a22 a23 a24 a25 a26 a27 a28 a29).run Q) (k : ∀ r, Q r → R (.int .i64 (r)) ([])) : ACalls Try.prog tab 70 [.agg [.int .i64 (a0), .int .i64 (a1), .int .i64 (a2), .int .i64 (a3), .int .i64 (a4), .int .i64 (a5), .int .i64 (a6), .int .i64 (a7), .int .i64 (a8), .int .i64 (a9), .int .i64 (a10), .int .i64 (a11), .sl (a12) 51 (a13), .sl (a14) 21 (a15), .int .i64 (a16), .int .i64 (a17), .int .i64 (a18), .int .i64 (a19), .int .i64 (a20), .int .i64 (a21), .int .i64 (a22), .int .i64 (a23)], .agg [.int .i64 (a24), .int .i64 (a25), .int .i64 (a26)], .agg [.int .i64 (a27), .int .i64 (a28), .int .i64 (a29)]] [] R := by
  refine ACalls.out (fun r => .int .i64 (r)) (fun r => []) (Q := Q) (ACalls.introX (mv := mv) tab_ok mixed_ (fn := Try.f70) (by kernel_rfl) rfl (by kernel_rfl) (by kernel_rfl) (Nat.le_of_ble_eq_true rfl) ?_) (fun v => by first | exact ⟨rfl, Nat.le_of_ble_eq_true rfl⟩ | (cases v <;> exact ⟨rfl, Nat.le_of_ble_eq_true rfl⟩)) k
  conv => whnf
  refine ASeq.go tab_ok mixed_ ?_
  conv => whnf
  refine ACalls.inn (c_ref08_Reduces (W.bindE h) (fun v2 h => ?_)) ⟨rfl, rfl⟩
  conv => whnf
  refine XSplit.mk (fun e => ?_) (fun e => ?_)
  · replace h := XSplit.t h e
    conv => whnf
    refine ACalls.inn (c_ref08_Length (W.bindE h) (fun v3 h => ?_)) ⟨rfl, rfl⟩
    conv => whnf
    refine ⟨_, Weak.a ?_, ?_, h⟩; (conv => whnf); exact ⟨rfl, rfl, rfl, rfl, rfl⟩; exact rfl
  · replace h := XSplit.f h e
    conv => whnf
    refine ASeq.go tab_ok mixed_ ?_
    conv => whnf
    refine XSplit.mk (fun e => ?_) (fun e => ?_)
    · replace h := XSplit.t h e
      conv => whnf
      refine ⟨_, Weak.a ?_, ?_, h⟩; (conv => whnf); exact ⟨rfl, rfl, rfl, rfl, rfl⟩; exact rfl
    · replace h := XSplit.f h e
      conv => whnf
      refine ⟨_, Weak.a ?_, ?_, h⟩; (conv => whnf); exact ⟨rfl, rfl, rfl, rfl, rfl⟩; exact rfl

theorem c_ref08_Look {a0 : Int} {a1 : Int} {a2 : Int} {a3 : Int} {a4 : Int} {a5 : Bool} {a6 : Rws} {a7 : Int} {Q : Int × Int × Int × Int × Bool × Rws → Prop} {R : AV → List AB → Prop} (h : (g_ref08_Look a0 a1 a2 a3 a4 a5 a6 a7).run Q) (k : ∀ r, Q r → R (.tup [.own 0, .int .i64 (r.fst), .agg [.int .i64 (r.snd.fst), .int .i64 (r.snd.snd.fst), .int .i64 (r.snd.snd.snd.fst)]]) ([.arr true 23 (r.snd.snd.snd.snd.fst) (r.snd.snd.snd.snd.snd)])) : ACalls Try.prog tab 47 [.agg [.int .i64 (a0), .int .i64 (a1), .int .i64 (a2), .int .i64 (a3), .int .i64 (a4), .sl (a5) 50 (a6), .int .i64 (a7)]] [] R := by
  refine ACalls.out (fun r => .tup [.own 0, .int .i64 (r.fst), .agg [.int .i64 (r.snd.fst), .int .i64 (r.snd.snd.fst), .int .i64 (r.snd.snd.snd.fst)]]) (fun r => [.arr true 23 (r.snd.snd.snd.snd.fst) (r.snd.snd.snd.snd.snd)]) (Q := Q) (ACalls.introX (mv := mv) tab_ok mixed_ (fn := Try.f47) (by kernel_rfl) rfl (by kernel_rfl) (by kernel_rfl) (Nat.le_of_ble_eq_true rfl) ?_) (fun v => by first | exact ⟨rfl, Nat.le_of_ble_eq_true rfl⟩ | (cases v <;> exact ⟨rfl, Nat.le_of_ble_eq_true rfl⟩)) k
  conv => whnf
  refine ASeq.joinW tab_ok mixed_ (fun v10 => ⟨[(1, .ptr 0 0), (2, .nils), (3, .int .i64 (0)), (4, .ptr 1 0), (5, .int .i64 (v10))], [(0, .box 26 [.int .i64 (a0), .int .i64 (a1), .int .i64 (a2), .int .i64 (a3), .int .i64 (a4), .sl (a5) 50 (a6), .int .i64 (a7)]), (1, .box 31 [.int .i64 (0), .int .i64 (0), .int .i64 (0)])], 2, [], []⟩) h (fun Q h => ?_) (fun v10 h => ?_)
  · conv => whnf
    refine ACalls.inn (c_ref05_Valid (W.bindE h) (fun v11 h => ?_)) ⟨rfl, rfl⟩
    conv => whnf
    refine XSplit.mk (fun e => ?_) (fun e => ?_)
    · replace h := XSplit.t h e
      conv => whnf
      refine ⟨_, Weak.a ?_, h⟩; (conv => whnf); exact ⟨rfl, rfl, rfl, rfl, rfl⟩
    · replace h := XSplit.f h e
      conv => whnf
      refine ASeq.joinW tab_ok mixed_ (fun v12 => ⟨[(1, .ptr 0 0), (2, .nils), (3, .int .i64 (0)), (4, .ptr 1 0), (5, .int .i64 (0)), (32, .bool (v12))], [(0, .box 26 [.int .i64 (a0), .int .i64 (a1), .int .i64 (a2), .int .i64 (a3), .int .i64 (a4), .sl (a5) 50 (a6), .int .i64 (a7)]), (1, .box 31 [.int .i64 (0), .int .i64 (0), .int .i64 (0)])], 2, [], []⟩) h (fun Q h => ?_) (fun v12 h => ?_)
      · conv => whnf
        refine ACalls.inn (c_ref08_values (W.bindE h) (fun v13 h => ?_)) ⟨rfl, rfl⟩
        conv => whnf
        refine XSplit.mk (fun e => ?_) (fun e => ?_)
        · replace h := XSplit.t h e
          conv => whnf
          refine ⟨_, Weak.a ?_, h⟩; (conv => whnf); exact ⟨rfl, rfl, rfl, rfl, rfl⟩
        · replace h := XSplit.f h e
          conv => whnf
          refine ACalls.inn (c_ref08_values (W.bindE h) (fun v14 h => ?_)) ⟨rfl, rfl⟩
          conv => whnf
          refine ⟨_, Weak.a ?_, h⟩; (conv => whnf); exact ⟨rfl, rfl, rfl, rfl, rfl⟩
      · conv => whnf
        refine XSplit.mk (fun e => ?_) (fun e => ?_)
        · replace h := XSplit.t h e
          conv => whnf
          refine ⟨_, Weak.a ?_, h⟩; (conv => whnf); exact ⟨rfl, rfl, rfl, rfl, rfl⟩
        · replace h := XSplit.f h e
          conv => whnf
          refine XSplit.mk (fun e => ?_) (fun e => ?_)
          · replace h := XSplit.t h e
            conv => whnf
            refine ⟨_, Weak.a ?_, h⟩; (conv => whnf); exact ⟨rfl, rfl, rfl, rfl, rfl⟩
          · replace h := XSplit.f h e
            conv => whnf
            refine XSplit.mk (fun e => ?_) (fun e => ?_)
            · replace h := XSplit.t h e
              conv => whnf
              refine ⟨_, Weak.a ?_, h⟩; (conv => whnf); exact ⟨rfl, rfl, rfl, rfl, rfl⟩
            · replace h := XSplit.f h e
              conv => whnf
              refine ⟨_, Weak.a ?_, h⟩; (conv => whnf); exact ⟨rfl, rfl, rfl, rfl, rfl⟩
  · conv => whnf
    refine ASeq.go tab_ok mixed_ ?_
    conv => whnf
    refine XSplit.mk (fun e => ?_) (fun e => ?_)
    · replace h := XSplit.t h e
      conv => whnf
      refine ⟨_, Weak.a ?_, ?_, h⟩; (conv => whnf); exact ⟨rfl, rfl, rfl, rfl, rfl⟩; exact rfl
    · replace h := XSplit.f h e
      conv => whnf
      refine ASeq.go tab_ok mixed_ ?_
      conv => whnf
      refine ALoop.ofW tab_ok mixed_ (fun v15 => ⟨[(2, .nils), (3, .int .i64 (0)), (4, .ptr 0 0), (6, .own 1), (7, .int .i64 (v15.fst)), (56, .sl (a5) 50 (a6)), (57, .int .i64 ((↑(List.length a6) : Int))), (58, .int .i64 (v15.snd.fst))], [(0, .box 31 [.int .i64 (0), .int .i64 (0), .int .i64 (0)]), (1, .arr true 23 (false) (v15.snd.snd))], 2, [], []⟩) (sx (fun v16 => (.ret, ⟨[(2, .nils), (3, .int .i64 (0)), (4, .ptr 0 0)], [(0, .box 31 [.int .i64 (v16.fst), .int .i64 (v16.snd), .int .i64 (0)])], 1, [], []⟩)) (fun v17 => (.exit 0, ⟨[(2, .nils), (3, .int .i64 (0)), (4, .ptr 0 0), (6, .own 1), (7, .int .i64 (v17.fst))], [(0, .box 31 [.int .i64 (0), .int .i64 (0), .int .i64 (0)]), (1, .arr true 23 (false) (v17.snd))], 2, [], []⟩))) (W.bindE h) (Weak.a ?_) (fun v15 J_ Q h => ?_) (fun v h => ?_)
      · conv => whnf
        exact ⟨rfl, rfl, rfl, rfl, rfl⟩
      · conv => whnf
        refine ASeq.go tab_ok mixed_ ?_
        conv => whnf
        refine XSplit.mk (fun e => ?_) (fun e => ?_)
        · replace h := XSplit.t h e
          conv => whnf
          refine ASeq.go tab_ok mixed_ ?_
          conv => whnf
          refine XNeed.mk (XNeed.c h) ?_; replace h := XNeed.x h
          conv => whnf
          refine ACalls.inn (c_ref08_one (W.bindE h) (fun v18 h => ?_)) ⟨rfl, rfl⟩
          conv => whnf
          refine ASeq.go tab_ok mixed_ ?_
          conv => whnf
          refine XSplit.mk (fun e => ?_) (fun e => ?_)
          · replace h := XSplit.t h e
            conv => whnf
            refine ⟨_, ?_, Weak.a ?_, h⟩; exact rfl; (conv => whnf); exact ⟨rfl, rfl, rfl, rfl, rfl⟩
          · replace h := XSplit.f h e
            conv => whnf
            refine XDraw.d [0, 1, 2, 3, 4, 5, 6, 7, 8, 9, 10] [[], [], [], [], [], [], [], [], [4], [], []] (by decide +kernel) ?_
            conv => whnf
            refine XNeed.mk (XNeed.c h) ?_; replace h := XNeed.x h
            conv => whnf
            refine ACalls.inn (c_ref08_Labour (W.bindE h) (fun v19 h => ?_)) ⟨rfl, rfl⟩
            conv => whnf
            refine ASeq.go tab_ok mixed_ ?_
            conv => whnf
            refine XSplit.mk (fun e => ?_) (fun e => ?_)
            · replace h := XSplit.t h e
              conv => whnf
              refine ⟨_, ?_, Weak.a ?_, h⟩; exact rfl; (conv => whnf); exact ⟨rfl, rfl, rfl, rfl, rfl⟩
            · replace h := XSplit.f h e
              conv => whnf
              refine XNeed.mk (XNeed.c h) ?_; replace h := XNeed.x h
              conv => whnf
              refine ⟨_, Weak.a ?_, h⟩; (conv => whnf); exact ⟨rfl, rfl, rfl, rfl, rfl⟩
        · replace h := XSplit.f h e
          conv => whnf
          refine ⟨_, ?_, Weak.a ?_, h⟩; exact rfl; (conv => whnf); exact ⟨rfl, rfl, rfl, rfl, rfl⟩
      · rcases v with v16 | v17
        · conv => whnf
          refine ⟨_, Weak.a ?_, ?_, h⟩; (conv => whnf); exact ⟨rfl, rfl, rfl, rfl, rfl⟩; exact rfl
        · conv => whnf
          refine ⟨_, Weak.a ?_, ?_, h⟩; (conv => whnf); exact ⟨rfl, rfl, rfl, rfl, rfl⟩; exact rfl

theorem c_ref08_Check {a0 : Int} {a1 : Int} {a2 : Int} {a3 : Int} {a4 : Int} {a5 : Bool} {a6 : Rws} {a7 : Int} {Q : Int × Int × Int → Prop} {R : AV → List AB → Prop} (h : (g_ref08_Check a0 a1 a2 a3 a4 a5 a6 a7).run Q) (k : ∀ r, Q r → R (.agg [.int .i64 (r.fst), .int .i64 (r.snd.fst), .int .i64 (r.snd.snd)]) ([])) : ACalls Try.prog tab 26 [.agg [.int .i64 (a0), .int .i64 (a1), .int .i64 (a2), .int .i64 (a3), .int .i64 (a4), .sl (a5) 50 (a6), .int .i64 (a7)]] [] R := by
  refine ACalls.out (fun r => .agg [.int .i64 (r.fst), .int .i64 (r.snd.fst), .int .i64 (r.snd.snd)]) (fun r => []) (Q := Q) (ACalls.introX (mv := mv) tab_ok mixed_ (fn := Try.f26) (by kernel_rfl) rfl (by kernel_rfl) (by kernel_rfl) (Nat.le_of_ble_eq_true rfl) ?_) (fun v => by first | exact ⟨rfl, Nat.le_of_ble_eq_true rfl⟩ | (cases v <;> exact ⟨rfl, Nat.le_of_ble_eq_true rfl⟩)) k
  conv => whnf
  refine ACalls.inn (c_ref08_Look (W.bindE h) (fun v1 h => ?_)) ⟨rfl, rfl⟩
  conv => whnf
  refine ⟨_, Weak.a ?_, ?_, h⟩; (conv => whnf); exact ⟨rfl, rfl, rfl, rfl, rfl⟩; exact rfl

theorem c_ref04_U {a0 : Int} {Q : Bool × Rws → Prop} {R : AV → List AB → Prop} (h : (g_ref04_U a0).run Q) (k : ∀ r, Q r → R (.own 0) ([.arr true 5 (r.fst) (r.snd)])) : ACalls Try.prog tab 71 [.int .u64 (a0)] [] R := by
  refine ACalls.out (fun r => .own 0) (fun r => [.arr true 5 (r.fst) (r.snd)]) (Q := Q) (ACalls.introX (mv := mv) tab_ok mixed_ (fn := Try.f71) (by kernel_rfl) rfl (by kernel_rfl) (by kernel_rfl) (Nat.le_of_ble_eq_true rfl) ?_) (fun v => by first | exact ⟨rfl, Nat.le_of_ble_eq_true rfl⟩ | (cases v <;> exact ⟨rfl, Nat.le_of_ble_eq_true rfl⟩)) k
  conv => whnf
  refine ASeq.go tab_ok mixed_ ?_
  conv => whnf
  refine ALoop.ofW tab_ok mixed_ (fun v2 => ⟨[(0, .int .u64 (v2.fst)), (2, .nils), (3, .own 0)], [(0, .arr true 5 (v2.snd.fst) (v2.snd.snd))], 1, [], []⟩) (fun v3 => (.exit 0, ⟨[(0, .int .u64 (v3.fst)), (2, .nils), (3, .own 0)], [(0, .arr true 5 (v3.snd.fst) (v3.snd.snd))], 1, [], []⟩)) (W.bindE h) (Weak.a ?_) (fun v2 J_ Q h => ?_) (fun v3 h => ?_)
  · conv => whnf
    exact ⟨rfl, rfl, rfl, rfl, rfl⟩
  · conv => whnf
    refine ASeq.go tab_ok mixed_ ?_
    conv => whnf
    refine XSplit.mk (fun e => ?_) (fun e => ?_)
    · replace h := XSplit.t h e
      conv => whnf
      refine XNeed.mk (of_decide_eq_true rfl) ?_
      conv => whnf
      refine XNeed.mk (XNeed.c h) ?_; replace h := XNeed.x h
      conv => whnf
      refine XNeed.mk (of_decide_eq_true rfl) ?_
      conv => whnf
      refine ⟨_, Weak.a ?_, h⟩; (conv => whnf); exact ⟨rfl, rfl, rfl, rfl, rfl⟩
    · replace h := XSplit.f h e
      conv => whnf
      refine ⟨_, ?_, Weak.a ?_, h⟩; exact rfl; (conv => whnf); exact ⟨rfl, rfl, rfl, rfl, rfl⟩
  · conv => whnf
    refine XNeed.mk (XNeed.c h) ?_; replace h := XNeed.x h
    conv => whnf
    refine ⟨_, Weak.a ?_, ?_, h⟩; (conv => whnf); exact ⟨rfl, rfl, rfl, rfl, rfl⟩; exact rfl

theorem c_ref09_us_o {a0 : Bool} {a1 : Rws} {a2 : Bool} {a3 : Rws} {Q : Bool × Rws → Prop} {R : AV → List AB → Prop} (h : (g_ref09_us_o a0 a1 a2 a3).run Q) (k : ∀ r, Q r → R (.own 0) ([.arr true 5 (r.fst) (r.snd)])) : ACalls Try.prog tab 48 [.own 0, .sl (a0) 3 (a1)] [.arr true 5 (a2) (a3)] R := by
  refine ACalls.out (fun r => .own 0) (fun r => [.arr true 5 (r.fst) (r.snd)]) (Q := Q) (ACalls.introX (mv := mv) tab_ok mixed_ (fn := Try.f48) (by kernel_rfl) rfl (by kernel_rfl) (by kernel_rfl) (Nat.le_of_ble_eq_true rfl) ?_) (fun v => by first | exact ⟨rfl, Nat.le_of_ble_eq_true rfl⟩ | (cases v <;> exact ⟨rfl, Nat.le_of_ble_eq_true rfl⟩)) k
  conv => whnf
  refine ASeq.go tab_ok mixed_ ?_
  conv => whnf
  refine ALoop.ofW tab_ok mixed_ (fun v3 => ⟨[(0, .own 0), (4, .nils), (7, .sl (a0) 3 (a1)), (8, .int .i64 ((↑(List.length a1) : Int))), (9, .int .i64 (v3.fst))], [(0, .arr true 5 (v3.snd.fst) (v3.snd.snd))], 1, [], []⟩) (fun v4 => (.exit 0, ⟨[(0, .own 0), (4, .nils)], [(0, .arr true 5 (v4.fst) (v4.snd))], 1, [], []⟩)) (W.bindE h) (Weak.a ?_) (fun v3 J_ Q h => ?_) (fun v4 h => ?_)
  · conv => whnf
    exact ⟨rfl, rfl, rfl, rfl, rfl⟩
  · conv => whnf
    refine ASeq.go tab_ok mixed_ ?_
    conv => whnf
    refine XSplit.mk (fun e => ?_) (fun e => ?_)
    · replace h := XSplit.t h e
      conv => whnf
      refine ASeq.go tab_ok mixed_ ?_
      conv => whnf
      refine XNeed.mk (XNeed.c h) ?_; replace h := XNeed.x h
      conv => whnf
      refine ACalls.inn (c_ref04_U (W.bindE h) (fun v5 h => ?_)) ⟨rfl, rfl⟩
      conv => whnf
      refine XNeed.mk (XNeed.c h) ?_; replace h := XNeed.x h
      conv => whnf
      refine ⟨_, Weak.a ?_, h⟩; (conv => whnf); exact ⟨rfl, rfl, rfl, rfl, rfl⟩
    · replace h := XSplit.f h e
      conv => whnf
      refine ⟨_, ?_, Weak.a ?_, h⟩; exact rfl; (conv => whnf); exact ⟨rfl, rfl, rfl, rfl, rfl⟩
  · conv => whnf
    refine ⟨_, Weak.a ?_, ?_, h⟩; (conv => whnf); exact ⟨rfl, rfl, rfl, rfl, rfl⟩; exact rfl

theorem c_ref04_Fold {a0 : Int} {Q : Int → Prop} {R : AV → List AB → Prop} (h : (g_ref04_Fold a0).run Q) (k : ∀ r, Q r → R (.int .u64 (r)) ([])) : ACalls Try.prog tab 91 [.int .i64 (a0)] [] R := by
  refine ACalls.out (fun r => .int .u64 (r)) (fun r => []) (Q := Q) (ACalls.introX (mv := mv) tab_ok mixed_ (fn := Try.f91) (by kernel_rfl) rfl (by kernel_rfl) (by kernel_rfl) (Nat.le_of_ble_eq_true rfl) ?_) (fun v => by first | exact ⟨rfl, Nat.le_of_ble_eq_true rfl⟩ | (cases v <;> exact ⟨rfl, Nat.le_of_ble_eq_true rfl⟩)) k
  conv => whnf
  refine ASeq.go tab_ok mixed_ ?_
  conv => whnf
  refine XSplit.mk (fun e => ?_) (fun e => ?_)
  · replace h := XSplit.t h e
    conv => whnf
    refine ⟨_, Weak.a ?_, ?_, h⟩; (conv => whnf); exact ⟨rfl, rfl, rfl, rfl, rfl⟩; exact rfl
  · replace h := XSplit.f h e
    conv => whnf
    refine ⟨_, Weak.a ?_, ?_, h⟩; (conv => whnf); exact ⟨rfl, rfl, rfl, rfl, rfl⟩; exact rfl

theorem c_ref04_S {a0 : Int} {Q : Bool × Rws → Prop} {R : AV → List AB → Prop} (h : (g_ref04_S a0).run Q) (k : ∀ r, Q r → R (.own 0) ([.arr true 5 (r.fst) (r.snd)])) : ACalls Try.prog tab 72 [.int .i64 (a0)] [] R := by
  refine ACalls.out (fun r => .own 0) (fun r => [.arr true 5 (r.fst) (r.snd)]) (Q := Q) (ACalls.introX (mv := mv) tab_ok mixed_ (fn := Try.f72) (by kernel_rfl) rfl (by kernel_rfl) (by kernel_rfl) (Nat.le_of_ble_eq_true rfl) ?_) (fun v => by first | exact ⟨rfl, Nat.le_of_ble_eq_true rfl⟩ | (cases v <;> exact ⟨rfl, Nat.le_of_ble_eq_true rfl⟩)) k
  conv => whnf
  refine ACalls.inn (c_ref04_Fold (W.bindE h) (fun v2 h => ?_)) ⟨rfl, rfl⟩
  conv => whnf
  refine ACalls.inn (c_ref04_U (W.bindE h) (fun v3 h => ?_)) ⟨rfl, rfl⟩
  conv => whnf
  refine ⟨_, Weak.a ?_, ?_, h⟩; (conv => whnf); exact ⟨rfl, rfl, rfl, rfl, rfl⟩; exact rfl

theorem c_ref09_ss_o {a0 : Bool} {a1 : Rws} {a2 : Bool} {a3 : Rws} {Q : Bool × Rws → Prop} {R : AV → List AB → Prop} (h : (g_ref09_ss_o a0 a1 a2 a3).run Q) (k : ∀ r, Q r → R (.own 0) ([.arr true 5 (r.fst) (r.snd)])) : ACalls Try.prog tab 49 [.own 0, .sl (a0) 3 (a1)] [.arr true 5 (a2) (a3)] R := by
  refine ACalls.out (fun r => .own 0) (fun r => [.arr true 5 (r.fst) (r.snd)]) (Q := Q) (ACalls.introX (mv := mv) tab_ok mixed_ (fn := Try.f49) (by kernel_rfl) rfl (by kernel_rfl) (by kernel_rfl) (Nat.le_of_ble_eq_true rfl) ?_) (fun v => by first | exact ⟨rfl, Nat.le_of_ble_eq_true rfl⟩ | (cases v <;> exact ⟨rfl, Nat.le_of_ble_eq_true rfl⟩)) k
  conv => whnf
  refine ASeq.go tab_ok mixed_ ?_
  conv => whnf
  refine ALoop.ofW tab_ok mixed_ (fun v3 => ⟨[(0, .own 0), (4, .nils), (7, .sl (a0) 3 (a1)), (8, .int .i64 ((↑(List.length a1) : Int))), (9, .int .i64 (v3.fst))], [(0, .arr true 5 (v3.snd.fst) (v3.snd.snd))], 1, [], []⟩) (fun v4 => (.exit 0, ⟨[(0, .own 0), (4, .nils)], [(0, .arr true 5 (v4.fst) (v4.snd))], 1, [], []⟩)) (W.bindE h) (Weak.a ?_) (fun v3 J_ Q h => ?_) (fun v4 h => ?_)
  · conv => whnf
    exact ⟨rfl, rfl, rfl, rfl, rfl⟩
  · conv => whnf
    refine ASeq.go tab_ok mixed_ ?_
    conv => whnf
    refine XSplit.mk (fun e => ?_) (fun e => ?_)
    · replace h := XSplit.t h e
      conv => whnf
      refine ASeq.go tab_ok mixed_ ?_
      conv => whnf
      refine XNeed.mk (XNeed.c h) ?_; replace h := XNeed.x h
      conv => whnf
      refine ACalls.inn (c_ref04_S (W.bindE h) (fun v5 h => ?_)) ⟨rfl, rfl⟩
      conv => whnf
      refine XNeed.mk (XNeed.c h) ?_; replace h := XNeed.x h
      conv => whnf
      refine ⟨_, Weak.a ?_, h⟩; (conv => whnf); exact ⟨rfl, rfl, rfl, rfl, rfl⟩
    · replace h := XSplit.f h e
      conv => whnf
      refine ⟨_, ?_, Weak.a ?_, h⟩; exact rfl; (conv => whnf); exact ⟨rfl, rfl, rfl, rfl, rfl⟩
  · conv => whnf
    refine ⟨_, Weak.a ?_, ?_, h⟩; (conv => whnf); exact ⟨rfl, rfl, rfl, rfl, rfl⟩; exact rfl
end Go.Proofs.Ytpoakneeceaooaa.V09

set_option linter.unusedVariables false
set_option maxRecDepth 100000
set_option maxHeartbeats 0
namespace Go.Proofs.Ytpoakneeceaooaa.V09
open Go.Proofs Go.Proofs.Ytpoakneeceaooaa.VX
theorem c_ref09_Bytes {a0 : Int} {a1 : Int} {a2 : Int} {a3 : Int} {a4 : Int} {a5 : Bool} {a6 : Rws} {a7 : Int} {Q : Bool × Rws → Prop} {R : AV → List AB → Prop} (h : (g_ref09_Bytes a0 a1 a2 a3 a4 a5 a6 a7).run Q) (k : ∀ r, Q r → R (.own 0) ([.arr true 5 (r.fst) (r.snd)])) : ACalls Try.prog tab 27 [.agg [.int .i64 (a0), .int .i64 (a1), .int .i64 (a2), .int .i64 (a3), .int .i64 (a4), .sl (a5) 50 (a6), .int .i64 (a7)]] [] R := by
  refine ACalls.out (fun r => .own 0) (fun r => [.arr true 5 (r.fst) (r.snd)]) (Q := Q) (ACalls.introX (mv := mv) tab_ok mixed_ (fn := Try.f27) (by kernel_rfl) rfl (by kernel_rfl) (by kernel_rfl) (Nat.le_of_ble_eq_true rfl) ?_) (fun v => by first | exact ⟨rfl, Nat.le_of_ble_eq_true rfl⟩ | (cases v <;> exact ⟨rfl, Nat.le_of_ble_eq_true rfl⟩)) k
  conv => whnf
  refine ACalls.inn (c_ref09_us_o (W.bindE h) (fun v16 h => ?_)) ⟨rfl, rfl⟩
  conv => whnf
  refine ACalls.inn (c_ref09_ss_o (W.bindE h) (fun v17 h => ?_)) ⟨rfl, rfl⟩
  conv => whnf
  refine ACalls.inn (c_ref09_us_o (W.bindE h) (fun v18 h => ?_)) ⟨rfl, rfl⟩
  conv => whnf
  refine ASeq.go tab_ok mixed_ ?_
  conv => whnf
  refine ALoop.ofW tab_ok mixed_ (fun v19 => ⟨[(1, .ptr 0 0), (2, .nils), (3, .own 1), (39, .sl (a5) 50 (a6)), (40, .int .i64 ((↑(List.length a6) : Int))), (41, .int .i64 (v19.fst))], [(0, .box 26 [.int .i64 (a0), .int .i64 (a1), .int .i64 (a2), .int .i64 (a3), .int .i64 (a4), .sl (a5) 50 (a6), .int .i64 (a7)]), (1, .arr true 5 (v19.snd.fst) (v19.snd.snd))], 2, [], []⟩) (fun v20 => (.exit 0, ⟨[(1, .ptr 0 0), (2, .nils), (3, .own 1)], [(0, .box 26 [.int .i64 (a0), .int .i64 (a1), .int .i64 (a2), .int .i64 (a3), .int .i64 (a4), .sl (a5) 50 (a6), .int .i64 (a7)]), (1, .arr true 5 (v20.fst) (v20.snd))], 2, [], []⟩)) (W.bindE h) (Weak.a ?_) (fun v19 J_ Q h => ?_) (fun v20 h => ?_)
  · conv => whnf
    exact ⟨rfl, rfl, rfl, rfl, rfl⟩
  · conv => whnf
    refine ASeq.go tab_ok mixed_ ?_
    conv => whnf
    refine XSplit.mk (fun e => ?_) (fun e => ?_)
    · replace h := XSplit.t h e
      conv => whnf
      refine ASeq.go tab_ok mixed_ ?_
      conv => whnf
      refine XNeed.mk (XNeed.c h) ?_; replace h := XNeed.x h
      conv => whnf
      refine ACalls.inn (c_ref09_us_o (W.bindE h) (fun v21 h => ?_)) ⟨rfl, rfl⟩
      conv => whnf
      refine ASeq.go tab_ok mixed_ ?_
      conv => whnf
      refine ALoop.ofW tab_ok mixed_ (fun v22 => ⟨[(1, .ptr 0 0), (2, .nils), (3, .own 1), (5, .ptr 2 0), (6, .ptr 3 0), (39, .sl (a5) 50 (a6)), (40, .int .i64 ((↑(List.length a6) : Int))), (41, .int .i64 (v19.fst)), (42, .bool (decide (v19.fst < (↑(List.length a6) : Int)))), (43, .rel 50 (a6) (v19.fst.toNat) 0), (44, .agg [.int .i64 (ri a6 v19.fst.toNat 0), .int .i64 (ri a6 v19.fst.toNat 1), .int .i64 (ri a6 v19.fst.toNat 2), .int .i64 (ri a6 v19.fst.toNat 3), .int .i64 (ri a6 v19.fst.toNat 4), .int .i64 (ri a6 v19.fst.toNat 5), .int .i64 (ri a6 v19.fst.toNat 6), .int .i64 (ri a6 v19.fst.toNat 7), .int .i64 (ri a6 v19.fst.toNat 8), .int .i64 (ri a6 v19.fst.toNat 9), .int .i64 (ri a6 v19.fst.toNat 10), .int .i64 (ri a6 v19.fst.toNat 11), .sl (rn a6 v19.fst.toNat 12) 51 (rr a6 v19.fst.toNat 12), .sl (rn a6 v19.fst.toNat 13) 21 (rr a6 v19.fst.toNat 13), .int .i64 (ri a6 v19.fst.toNat 14), .int .i64 (ri a6 v19.fst.toNat 15), .int .i64 (ri a6 v19.fst.toNat 16), .int .i64 (ri a6 v19.fst.toNat 17), .int .i64 (ri a6 v19.fst.toNat 18), .int .i64 (ri a6 v19.fst.toNat 19), .int .i64 (ri a6 v19.fst.toNat 20), .int .i64 (ri a6 v19.fst.toNat 21)]), (45, .ptr 2 4), (46, .agg [.int .i64 (ri a6 v19.fst.toNat 4), .int .i64 (ri a6 v19.fst.toNat 5), .int .i64 (ri a6 v19.fst.toNat 6), .int .i64 (ri a6 v19.fst.toNat 7), .int .i64 (ri a6 v19.fst.toNat 8), .int .i64 (ri a6 v19.fst.toNat 9), .int .i64 (ri a6 v19.fst.toNat 10), .int .i64 (ri a6 v19.fst.toNat 11)]), (47, .own 4), (48, .ptr 2 0), (49, .int .i64 (ri a6 v19.fst.toNat 0)), (50, .ptr 2 1), (51, .int .i64 (ri a6 v19.fst.toNat 1)), (52, .ptr 2 2), (53, .int .i64 (ri a6 v19.fst.toNat 2)), (54, .ptr 2 3), (55, .int .i64 (ri a6 v19.fst.toNat 3)), (56, .ptr 3 0), (57, .int .i64 (ri a6 v19.fst.toNat 4)), (58, .ptr 3 1), (59, .int .i64 (ri a6 v19.fst.toNat 5)), (60, .ptr 3 2), (61, .int .i64 (ri a6 v19.fst.toNat 6)), (62, .ptr 3 3), (63, .int .i64 (ri a6 v19.fst.toNat 7)), (64, .ptr 3 4), (65, .int .i64 (ri a6 v19.fst.toNat 8)), (66, .ptr 3 5), (67, .int .i64 (ri a6 v19.fst.toNat 9)), (68, .ptr 3 6), (69, .int .i64 (ri a6 v19.fst.toNat 10)), (70, .ptr 3 7), (71, .int .i64 (ri a6 v19.fst.toNat 11)), (72, .ptr 2 12), (73, .sl (rn a6 v19.fst.toNat 12) 51 (rr a6 v19.fst.toNat 12)), (74, .int .i64 ((↑(List.length (rr a6 v19.fst.toNat 12)) : Int))), (75, .own 5), (77, .ptr 2 12), (78, .sl (rn a6 v19.fst.toNat 12) 51 (rr a6 v19.fst.toNat 12)), (79, .int .i64 ((↑(List.length (rr a6 v19.fst.toNat 12)) : Int))), (80, .int .i64 (v22.fst))], [(0, .box 26 [.int .i64 (a0), .int .i64 (a1), .int .i64 (a2), .int .i64 (a3), .int .i64 (a4), .sl (a5) 50 (a6), .int .i64 (a7)]), (1, .arr true 5 (v22.snd.fst) (v22.snd.snd)), (2, .box 50 [.int .i64 (ri a6 v19.fst.toNat 0), .int .i64 (ri a6 v19.fst.toNat 1), .int .i64 (ri a6 v19.fst.toNat 2), .int .i64 (ri a6 v19.fst.toNat 3), .int .i64 (ri a6 v19.fst.toNat 4), .int .i64 (ri a6 v19.fst.toNat 5), .int .i64 (ri a6 v19.fst.toNat 6), .int .i64 (ri a6 v19.fst.toNat 7), .int .i64 (ri a6 v19.fst.toNat 8), .int .i64 (ri a6 v19.fst.toNat 9), .int .i64 (ri a6 v19.fst.toNat 10), .int .i64 (ri a6 v19.fst.toNat 11), .sl (rn a6 v19.fst.toNat 12) 51 (rr a6 v19.fst.toNat 12), .sl (rn a6 v19.fst.toNat 13) 21 (rr a6 v19.fst.toNat 13), .int .i64 (ri a6 v19.fst.toNat 14), .int .i64 (ri a6 v19.fst.toNat 15), .int .i64 (ri a6 v19.fst.toNat 16), .int .i64 (ri a6 v19.fst.toNat 17), .int .i64 (ri a6 v19.fst.toNat 18), .int .i64 (ri a6 v19.fst.toNat 19), .int .i64 (ri a6 v19.fst.toNat 20), .int .i64 (ri a6 v19.fst.toNat 21)]), (3, .box 44 [.int .i64 (ri a6 v19.fst.toNat 4), .int .i64 (ri a6 v19.fst.toNat 5), .int .i64 (ri a6 v19.fst.toNat 6), .int .i64 (ri a6 v19.fst.toNat 7), .int .i64 (ri a6 v19.fst.toNat 8), .int .i64 (ri a6 v19.fst.toNat 9), .int .i64 (ri a6 v19.fst.toNat 10), .int .i64 (ri a6 v19.fst.toNat 11)]), (4, .gone), (5, .arr true 3 (false) ([[I (ri a6 v19.fst.toNat 0)], [I (ri a6 v19.fst.toNat 1)], [I (ri a6 v19.fst.toNat 2)], [I (ri a6 v19.fst.toNat 3)], [I (ri a6 v19.fst.toNat 4)], [I (ri a6 v19.fst.toNat 5)], [I (ri a6 v19.fst.toNat 6)], [I (ri a6 v19.fst.toNat 7)], [I (ri a6 v19.fst.toNat 8)], [I (ri a6 v19.fst.toNat 9)], [I (ri a6 v19.fst.toNat 10)], [I (ri a6 v19.fst.toNat 11)], [I (↑(List.length (rr a6 v19.fst.toNat 12)) : Int)]]))], 6, [], []⟩) (fun v23 => (.exit 2, ⟨[(1, .ptr 0 0), (2, .nils), (3, .own 1), (5, .ptr 2 0), (6, .ptr 3 0), (39, .sl (a5) 50 (a6)), (40, .int .i64 ((↑(List.length a6) : Int))), (41, .int .i64 (v19.fst)), (42, .bool (decide (v19.fst < (↑(List.length a6) : Int)))), (43, .rel 50 (a6) (v19.fst.toNat) 0), (44, .agg [.int .i64 (ri a6 v19.fst.toNat 0), .int .i64 (ri a6 v19.fst.toNat 1), .int .i64 (ri a6 v19.fst.toNat 2), .int .i64 (ri a6 v19.fst.toNat 3), .int .i64 (ri a6 v19.fst.toNat 4), .int .i64 (ri a6 v19.fst.toNat 5), .int .i64 (ri a6 v19.fst.toNat 6), .int .i64 (ri a6 v19.fst.toNat 7), .int .i64 (ri a6 v19.fst.toNat 8), .int .i64 (ri a6 v19.fst.toNat 9), .int .i64 (ri a6 v19.fst.toNat 10), .int .i64 (ri a6 v19.fst.toNat 11), .sl (rn a6 v19.fst.toNat 12) 51 (rr a6 v19.fst.toNat 12), .sl (rn a6 v19.fst.toNat 13) 21 (rr a6 v19.fst.toNat 13), .int .i64 (ri a6 v19.fst.toNat 14), .int .i64 (ri a6 v19.fst.toNat 15), .int .i64 (ri a6 v19.fst.toNat 16), .int .i64 (ri a6 v19.fst.toNat 17), .int .i64 (ri a6 v19.fst.toNat 18), .int .i64 (ri a6 v19.fst.toNat 19), .int .i64 (ri a6 v19.fst.toNat 20), .int .i64 (ri a6 v19.fst.toNat 21)]), (45, .ptr 2 4), (46, .agg [.int .i64 (ri a6 v19.fst.toNat 4), .int .i64 (ri a6 v19.fst.toNat 5), .int .i64 (ri a6 v19.fst.toNat 6), .int .i64 (ri a6 v19.fst.toNat 7), .int .i64 (ri a6 v19.fst.toNat 8), .int .i64 (ri a6 v19.fst.toNat 9), .int .i64 (ri a6 v19.fst.toNat 10), .int .i64 (ri a6 v19.fst.toNat 11)]), (47, .own 4), (48, .ptr 2 0), (49, .int .i64 (ri a6 v19.fst.toNat 0)), (50, .ptr 2 1), (51, .int .i64 (ri a6 v19.fst.toNat 1)), (52, .ptr 2 2), (53, .int .i64 (ri a6 v19.fst.toNat 2)), (54, .ptr 2 3), (55, .int .i64 (ri a6 v19.fst.toNat 3)), (56, .ptr 3 0), (57, .int .i64 (ri a6 v19.fst.toNat 4)), (58, .ptr 3 1), (59, .int .i64 (ri a6 v19.fst.toNat 5)), (60, .ptr 3 2), (61, .int .i64 (ri a6 v19.fst.toNat 6)), (62, .ptr 3 3), (63, .int .i64 (ri a6 v19.fst.toNat 7)), (64, .ptr 3 4), (65, .int .i64 (ri a6 v19.fst.toNat 8)), (66, .ptr 3 5), (67, .int .i64 (ri a6 v19.fst.toNat 9)), (68, .ptr 3 6), (69, .int .i64 (ri a6 v19.fst.toNat 10)), (70, .ptr 3 7), (71, .int .i64 (ri a6 v19.fst.toNat 11)), (72, .ptr 2 12), (73, .sl (rn a6 v19.fst.toNat 12) 51 (rr a6 v19.fst.toNat 12)), (74, .int .i64 ((↑(List.length (rr a6 v19.fst.toNat 12)) : Int))), (75, .own 5), (77, .ptr 2 12), (78, .sl (rn a6 v19.fst.toNat 12) 51 (rr a6 v19.fst.toNat 12)), (79, .int .i64 ((↑(List.length (rr a6 v19.fst.toNat 12)) : Int))), (80, .int .i64 (v23.fst)), (81, .bool (v23.snd.fst))], [(0, .box 26 [.int .i64 (a0), .int .i64 (a1), .int .i64 (a2), .int .i64 (a3), .int .i64 (a4), .sl (a5) 50 (a6), .int .i64 (a7)]), (1, .arr true 5 (v23.snd.snd.fst) (v23.snd.snd.snd)), (2, .box 50 [.int .i64 (ri a6 v19.fst.toNat 0), .int .i64 (ri a6 v19.fst.toNat 1), .int .i64 (ri a6 v19.fst.toNat 2), .int .i64 (ri a6 v19.fst.toNat 3), .int .i64 (ri a6 v19.fst.toNat 4), .int .i64 (ri a6 v19.fst.toNat 5), .int .i64 (ri a6 v19.fst.toNat 6), .int .i64 (ri a6 v19.fst.toNat 7), .int .i64 (ri a6 v19.fst.toNat 8), .int .i64 (ri a6 v19.fst.toNat 9), .int .i64 (ri a6 v19.fst.toNat 10), .int .i64 (ri a6 v19.fst.toNat 11), .sl (rn a6 v19.fst.toNat 12) 51 (rr a6 v19.fst.toNat 12), .sl (rn a6 v19.fst.toNat 13) 21 (rr a6 v19.fst.toNat 13), .int .i64 (ri a6 v19.fst.toNat 14), .int .i64 (ri a6 v19.fst.toNat 15), .int .i64 (ri a6 v19.fst.toNat 16), .int .i64 (ri a6 v19.fst.toNat 17), .int .i64 (ri a6 v19.fst.toNat 18), .int .i64 (ri a6 v19.fst.toNat 19), .int .i64 (ri a6 v19.fst.toNat 20), .int .i64 (ri a6 v19.fst.toNat 21)]), (3, .box 44 [.int .i64 (ri a6 v19.fst.toNat 4), .int .i64 (ri a6 v19.fst.toNat 5), .int .i64 (ri a6 v19.fst.toNat 6), .int .i64 (ri a6 v19.fst.toNat 7), .int .i64 (ri a6 v19.fst.toNat 8), .int .i64 (ri a6 v19.fst.toNat 9), .int .i64 (ri a6 v19.fst.toNat 10), .int .i64 (ri a6 v19.fst.toNat 11)]), (4, .gone), (5, .arr true 3 (false) ([[I (ri a6 v19.fst.toNat 0)], [I (ri a6 v19.fst.toNat 1)], [I (ri a6 v19.fst.toNat 2)], [I (ri a6 v19.fst.toNat 3)], [I (ri a6 v19.fst.toNat 4)], [I (ri a6 v19.fst.toNat 5)], [I (ri a6 v19.fst.toNat 6)], [I (ri a6 v19.fst.toNat 7)], [I (ri a6 v19.fst.toNat 8)], [I (ri a6 v19.fst.toNat 9)], [I (ri a6 v19.fst.toNat 10)], [I (ri a6 v19.fst.toNat 11)], [I (↑(List.length (rr a6 v19.fst.toNat 12)) : Int)]]))], 6, [], []⟩)) (W.bindE h) (Weak.a ?_) (fun v22 J_ Q h => ?_) (fun v23 h => ?_)
      · conv => whnf
        exact ⟨rfl, rfl, rfl, rfl, rfl⟩
      · conv => whnf
        refine ASeq.go tab_ok mixed_ ?_
        conv => whnf
        refine XSplit.mk (fun e => ?_) (fun e => ?_)
        · replace h := XSplit.t h e
          conv => whnf
          refine ASeq.go tab_ok mixed_ ?_
          conv => whnf
          refine XNeed.mk (XNeed.c h) ?_; replace h := XNeed.x h
          conv => whnf
          refine ACalls.inn (c_ref09_ss_o (W.bindE h) (fun v24 h => ?_)) ⟨rfl, rfl⟩
          conv => whnf
          refine ⟨_, Weak.a ?_, h⟩; (conv => whnf); exact ⟨rfl, rfl, rfl, rfl, rfl⟩
        · replace h := XSplit.f h e
          conv => whnf
          refine ⟨_, ?_, Weak.a ?_, h⟩; exact rfl; (conv => whnf); exact ⟨rfl, rfl, rfl, rfl, rfl⟩
      · conv => whnf
        refine ACalls.inn (c_ref09_us_o (W.bindE h) (fun v25 h => ?_)) ⟨rfl, rfl⟩
        conv => whnf
        refine ASeq.go tab_ok mixed_ ?_
        conv => whnf
        refine ALoop.ofW tab_ok mixed_ (fun v26 => ⟨[(1, .ptr 0 0), (2, .nils), (3, .own 1), (5, .ptr 2 0), (6, .ptr 3 0), (39, .sl (a5) 50 (a6)), (40, .int .i64 ((↑(List.length a6) : Int))), (41, .int .i64 (v19.fst)), (42, .bool (decide (v19.fst < (↑(List.length a6) : Int)))), (43, .rel 50 (a6) (v19.fst.toNat) 0), (44, .agg [.int .i64 (ri a6 v19.fst.toNat 0), .int .i64 (ri a6 v19.fst.toNat 1), .int .i64 (ri a6 v19.fst.toNat 2), .int .i64 (ri a6 v19.fst.toNat 3), .int .i64 (ri a6 v19.fst.toNat 4), .int .i64 (ri a6 v19.fst.toNat 5), .int .i64 (ri a6 v19.fst.toNat 6), .int .i64 (ri a6 v19.fst.toNat 7), .int .i64 (ri a6 v19.fst.toNat 8), .int .i64 (ri a6 v19.fst.toNat 9), .int .i64 (ri a6 v19.fst.toNat 10), .int .i64 (ri a6 v19.fst.toNat 11), .sl (rn a6 v19.fst.toNat 12) 51 (rr a6 v19.fst.toNat 12), .sl (rn a6 v19.fst.toNat 13) 21 (rr a6 v19.fst.toNat 13), .int .i64 (ri a6 v19.fst.toNat 14), .int .i64 (ri a6 v19.fst.toNat 15), .int .i64 (ri a6 v19.fst.toNat 16), .int .i64 (ri a6 v19.fst.toNat 17), .int .i64 (ri a6 v19.fst.toNat 18), .int .i64 (ri a6 v19.fst.toNat 19), .int .i64 (ri a6 v19.fst.toNat 20), .int .i64 (ri a6 v19.fst.toNat 21)]), (45, .ptr 2 4), (46, .agg [.int .i64 (ri a6 v19.fst.toNat 4), .int .i64 (ri a6 v19.fst.toNat 5), .int .i64 (ri a6 v19.fst.toNat 6), .int .i64 (ri a6 v19.fst.toNat 7), .int .i64 (ri a6 v19.fst.toNat 8), .int .i64 (ri a6 v19.fst.toNat 9), .int .i64 (ri a6 v19.fst.toNat 10), .int .i64 (ri a6 v19.fst.toNat 11)]), (47, .own 4), (48, .ptr 2 0), (49, .int .i64 (ri a6 v19.fst.toNat 0)), (50, .ptr 2 1), (51, .int .i64 (ri a6 v19.fst.toNat 1)), (52, .ptr 2 2), (53, .int .i64 (ri a6 v19.fst.toNat 2)), (54, .ptr 2 3), (55, .int .i64 (ri a6 v19.fst.toNat 3)), (56, .ptr 3 0), (57, .int .i64 (ri a6 v19.fst.toNat 4)), (58, .ptr 3 1), (59, .int .i64 (ri a6 v19.fst.toNat 5)), (60, .ptr 3 2), (61, .int .i64 (ri a6 v19.fst.toNat 6)), (62, .ptr 3 3), (63, .int .i64 (ri a6 v19.fst.toNat 7)), (64, .ptr 3 4), (65, .int .i64 (ri a6 v19.fst.toNat 8)), (66, .ptr 3 5), (67, .int .i64 (ri a6 v19.fst.toNat 9)), (68, .ptr 3 6), (69, .int .i64 (ri a6 v19.fst.toNat 10)), (70, .ptr 3 7), (71, .int .i64 (ri a6 v19.fst.toNat 11)), (72, .ptr 2 12), (73, .sl (rn a6 v19.fst.toNat 12) 51 (rr a6 v19.fst.toNat 12)), (74, .int .i64 ((↑(List.length (rr a6 v19.fst.toNat 12)) : Int))), (75, .own 5), (77, .ptr 2 12), (78, .sl (rn a6 v19.fst.toNat 12) 51 (rr a6 v19.fst.toNat 12)), (79, .int .i64 ((↑(List.length (rr a6 v19.fst.toNat 12)) : Int))), (80, .int .i64 (v23.fst)), (81, .bool (v23.snd.fst)), (90, .own 6), (91, .ptr 2 13), (92, .sl (rn a6 v19.fst.toNat 13) 21 (rr a6 v19.fst.toNat 13)), (93, .int .i64 ((↑(List.length (rr a6 v19.fst.toNat 13)) : Int))), (94, .own 7), (96, .ptr 2 13), (97, .sl (rn a6 v19.fst.toNat 13) 21 (rr a6 v19.fst.toNat 13)), (98, .int .i64 ((↑(List.length (rr a6 v19.fst.toNat 13)) : Int))), (99, .int .i64 (v26.fst))], [(0, .box 26 [.int .i64 (a0), .int .i64 (a1), .int .i64 (a2), .int .i64 (a3), .int .i64 (a4), .sl (a5) 50 (a6), .int .i64 (a7)]), (1, .arr true 5 (v26.snd.fst) (v26.snd.snd)), (2, .box 50 [.int .i64 (ri a6 v19.fst.toNat 0), .int .i64 (ri a6 v19.fst.toNat 1), .int .i64 (ri a6 v19.fst.toNat 2), .int .i64 (ri a6 v19.fst.toNat 3), .int .i64 (ri a6 v19.fst.toNat 4), .int .i64 (ri a6 v19.fst.toNat 5), .int .i64 (ri a6 v19.fst.toNat 6), .int .i64 (ri a6 v19.fst.toNat 7), .int .i64 (ri a6 v19.fst.toNat 8), .int .i64 (ri a6 v19.fst.toNat 9), .int .i64 (ri a6 v19.fst.toNat 10), .int .i64 (ri a6 v19.fst.toNat 11), .sl (rn a6 v19.fst.toNat 12) 51 (rr a6 v19.fst.toNat 12), .sl (rn a6 v19.fst.toNat 13) 21 (rr a6 v19.fst.toNat 13), .int .i64 (ri a6 v19.fst.toNat 14), .int .i64 (ri a6 v19.fst.toNat 15), .int .i64 (ri a6 v19.fst.toNat 16), .int .i64 (ri a6 v19.fst.toNat 17), .int .i64 (ri a6 v19.fst.toNat 18), .int .i64 (ri a6 v19.fst.toNat 19), .int .i64 (ri a6 v19.fst.toNat 20), .int .i64 (ri a6 v19.fst.toNat 21)]), (3, .box 44 [.int .i64 (ri a6 v19.fst.toNat 4), .int .i64 (ri a6 v19.fst.toNat 5), .int .i64 (ri a6 v19.fst.toNat 6), .int .i64 (ri a6 v19.fst.toNat 7), .int .i64 (ri a6 v19.fst.toNat 8), .int .i64 (ri a6 v19.fst.toNat 9), .int .i64 (ri a6 v19.fst.toNat 10), .int .i64 (ri a6 v19.fst.toNat 11)]), (4, .gone), (5, .arr true 3 (false) ([[I (ri a6 v19.fst.toNat 0)], [I (ri a6 v19.fst.toNat 1)], [I (ri a6 v19.fst.toNat 2)], [I (ri a6 v19.fst.toNat 3)], [I (ri a6 v19.fst.toNat 4)], [I (ri a6 v19.fst.toNat 5)], [I (ri a6 v19.fst.toNat 6)], [I (ri a6 v19.fst.toNat 7)], [I (ri a6 v19.fst.toNat 8)], [I (ri a6 v19.fst.toNat 9)], [I (ri a6 v19.fst.toNat 10)], [I (ri a6 v19.fst.toNat 11)], [I (↑(List.length (rr a6 v19.fst.toNat 12)) : Int)]])), (6, .gone), (7, .arr true 3 (false) ([[I (↑(List.length (rr a6 v19.fst.toNat 13)) : Int)]]))], 8, [], []⟩) (fun v27 => (.exit 4, ⟨[(1, .ptr 0 0), (2, .nils), (3, .own 1), (5, .ptr 2 0), (6, .ptr 3 0), (39, .sl (a5) 50 (a6)), (40, .int .i64 ((↑(List.length a6) : Int))), (41, .int .i64 (v19.fst)), (42, .bool (decide (v19.fst < (↑(List.length a6) : Int)))), (43, .rel 50 (a6) (v19.fst.toNat) 0), (44, .agg [.int .i64 (ri a6 v19.fst.toNat 0), .int .i64 (ri a6 v19.fst.toNat 1), .int .i64 (ri a6 v19.fst.toNat 2), .int .i64 (ri a6 v19.fst.toNat 3), .int .i64 (ri a6 v19.fst.toNat 4), .int .i64 (ri a6 v19.fst.toNat 5), .int .i64 (ri a6 v19.fst.toNat 6), .int .i64 (ri a6 v19.fst.toNat 7), .int .i64 (ri a6 v19.fst.toNat 8), .int .i64 (ri a6 v19.fst.toNat 9), .int .i64 (ri a6 v19.fst.toNat 10), .int .i64 (ri a6 v19.fst.toNat 11), .sl (rn a6 v19.fst.toNat 12) 51 (rr a6 v19.fst.toNat 12), .sl (rn a6 v19.fst.toNat 13) 21 (rr a6 v19.fst.toNat 13), .int .i64 (ri a6 v19.fst.toNat 14), .int .i64 (ri a6 v19.fst.toNat 15), .int .i64 (ri a6 v19.fst.toNat 16), .int .i64 (ri a6 v19.fst.toNat 17), .int .i64 (ri a6 v19.fst.toNat 18), .int .i64 (ri a6 v19.fst.toNat 19), .int .i64 (ri a6 v19.fst.toNat 20), .int .i64 (ri a6 v19.fst.toNat 21)]), (45, .ptr 2 4), (46, .agg [.int .i64 (ri a6 v19.fst.toNat 4), .int .i64 (ri a6 v19.fst.toNat 5), .int .i64 (ri a6 v19.fst.toNat 6), .int .i64 (ri a6 v19.fst.toNat 7), .int .i64 (ri a6 v19.fst.toNat 8), .int .i64 (ri a6 v19.fst.toNat 9), .int .i64 (ri a6 v19.fst.toNat 10), .int .i64 (ri a6 v19.fst.toNat 11)]), (47, .own 4), (48, .ptr 2 0), (49, .int .i64 (ri a6 v19.fst.toNat 0)), (50, .ptr 2 1), (51, .int .i64 (ri a6 v19.fst.toNat 1)), (52, .ptr 2 2), (53, .int .i64 (ri a6 v19.fst.toNat 2)), (54, .ptr 2 3), (55, .int .i64 (ri a6 v19.fst.toNat 3)), (56, .ptr 3 0), (57, .int .i64 (ri a6 v19.fst.toNat 4)), (58, .ptr 3 1), (59, .int .i64 (ri a6 v19.fst.toNat 5)), (60, .ptr 3 2), (61, .int .i64 (ri a6 v19.fst.toNat 6)), (62, .ptr 3 3), (63, .int .i64 (ri a6 v19.fst.toNat 7)), (64, .ptr 3 4), (65, .int .i64 (ri a6 v19.fst.toNat 8)), (66, .ptr 3 5), (67, .int .i64 (ri a6 v19.fst.toNat 9)), (68, .ptr 3 6), (69, .int .i64 (ri a6 v19.fst.toNat 10)), (70, .ptr 3 7), (71, .int .i64 (ri a6 v19.fst.toNat 11)), (72, .ptr 2 12), (73, .sl (rn a6 v19.fst.toNat 12) 51 (rr a6 v19.fst.toNat 12)), (74, .int .i64 ((↑(List.length (rr a6 v19.fst.toNat 12)) : Int))), (75, .own 5), (77, .ptr 2 12), (78, .sl (rn a6 v19.fst.toNat 12) 51 (rr a6 v19.fst.toNat 12)), (79, .int .i64 ((↑(List.length (rr a6 v19.fst.toNat 12)) : Int))), (80, .int .i64 (v23.fst)), (81, .bool (v23.snd.fst)), (90, .own 6), (91, .ptr 2 13), (92, .sl (rn a6 v19.fst.toNat 13) 21 (rr a6 v19.fst.toNat 13)), (93, .int .i64 ((↑(List.length (rr a6 v19.fst.toNat 13)) : Int))), (94, .own 7), (96, .ptr 2 13), (97, .sl (rn a6 v19.fst.toNat 13) 21 (rr a6 v19.fst.toNat 13)), (98, .int .i64 ((↑(List.length (rr a6 v19.fst.toNat 13)) : Int))), (99, .int .i64 (v27.fst)), (100, .bool (v27.snd.fst))], [(0, .box 26 [.int .i64 (a0), .int .i64 (a1), .int .i64 (a2), .int .i64 (a3), .int .i64 (a4), .sl (a5) 50 (a6), .int .i64 (a7)]), (1, .arr true 5 (v27.snd.snd.fst) (v27.snd.snd.snd)), (2, .box 50 [.int .i64 (ri a6 v19.fst.toNat 0), .int .i64 (ri a6 v19.fst.toNat 1), .int .i64 (ri a6 v19.fst.toNat 2), .int .i64 (ri a6 v19.fst.toNat 3), .int .i64 (ri a6 v19.fst.toNat 4), .int .i64 (ri a6 v19.fst.toNat 5), .int .i64 (ri a6 v19.fst.toNat 6), .int .i64 (ri a6 v19.fst.toNat 7), .int .i64 (ri a6 v19.fst.toNat 8), .int .i64 (ri a6 v19.fst.toNat 9), .int .i64 (ri a6 v19.fst.toNat 10), .int .i64 (ri a6 v19.fst.toNat 11), .sl (rn a6 v19.fst.toNat 12) 51 (rr a6 v19.fst.toNat 12), .sl (rn a6 v19.fst.toNat 13) 21 (rr a6 v19.fst.toNat 13), .int .i64 (ri a6 v19.fst.toNat 14), .int .i64 (ri a6 v19.fst.toNat 15), .int .i64 (ri a6 v19.fst.toNat 16), .int .i64 (ri a6 v19.fst.toNat 17), .int .i64 (ri a6 v19.fst.toNat 18), .int .i64 (ri a6 v19.fst.toNat 19), .int .i64 (ri a6 v19.fst.toNat 20), .int .i64 (ri a6 v19.fst.toNat 21)]), (3, .box 44 [.int .i64 (ri a6 v19.fst.toNat 4), .int .i64 (ri a6 v19.fst.toNat 5), .int .i64 (ri a6 v19.fst.toNat 6), .int .i64 (ri a6 v19.fst.toNat 7), .int .i64 (ri a6 v19.fst.toNat 8), .int .i64 (ri a6 v19.fst.toNat 9), .int .i64 (ri a6 v19.fst.toNat 10), .int .i64 (ri a6 v19.fst.toNat 11)]), (4, .gone), (5, .arr true 3 (false) ([[I (ri a6 v19.fst.toNat 0)], [I (ri a6 v19.fst.toNat 1)], [I (ri a6 v19.fst.toNat 2)], [I (ri a6 v19.fst.toNat 3)], [I (ri a6 v19.fst.toNat 4)], [I (ri a6 v19.fst.toNat 5)], [I (ri a6 v19.fst.toNat 6)], [I (ri a6 v19.fst.toNat 7)], [I (ri a6 v19.fst.toNat 8)], [I (ri a6 v19.fst.toNat 9)], [I (ri a6 v19.fst.toNat 10)], [I (ri a6 v19.fst.toNat 11)], [I (↑(List.length (rr a6 v19.fst.toNat 12)) : Int)]])), (6, .gone), (7, .arr true 3 (false) ([[I (↑(List.length (rr a6 v19.fst.toNat 13)) : Int)]]))], 8, [], []⟩)) (W.bindE h) (Weak.a ?_) (fun v26 J_ Q h => ?_) (fun v27 h => ?_)
        · conv => whnf
          exact ⟨rfl, rfl, rfl, rfl, rfl⟩
        · conv => whnf
          refine ASeq.go tab_ok mixed_ ?_
          conv => whnf
          refine XSplit.mk (fun e => ?_) (fun e => ?_)
          · replace h := XSplit.t h e
            conv => whnf
            refine ASeq.go tab_ok mixed_ ?_
            conv => whnf
            refine XNeed.mk (XNeed.c h) ?_; replace h := XNeed.x h
            conv => whnf
            refine ACalls.inn (c_ref09_ss_o (W.bindE h) (fun v28 h => ?_)) ⟨rfl, rfl⟩
            conv => whnf
            refine ⟨_, Weak.a ?_, h⟩; (conv => whnf); exact ⟨rfl, rfl, rfl, rfl, rfl⟩
          · replace h := XSplit.f h e
            conv => whnf
            refine ⟨_, ?_, Weak.a ?_, h⟩; exact rfl; (conv => whnf); exact ⟨rfl, rfl, rfl, rfl, rfl⟩
        · conv => whnf
          refine ACalls.inn (c_ref09_us_o (W.bindE h) (fun v29 h => ?_)) ⟨rfl, rfl⟩
          conv => whnf
          refine ACalls.inn (c_ref09_ss_o (W.bindE h) (fun v30 h => ?_)) ⟨rfl, rfl⟩
          conv => whnf
          refine ⟨_, Weak.a ?_, h⟩; (conv => whnf); exact ⟨rfl, rfl, rfl, rfl, rfl⟩
    · replace h := XSplit.f h e
      conv => whnf
      refine ⟨_, ?_, Weak.a ?_, h⟩; exact rfl; (conv => whnf); exact ⟨rfl, rfl, rfl, rfl, rfl⟩
  · conv => whnf
    refine ACalls.inn (c_ref09_us_o (W.bindE h) (fun v31 h => ?_)) ⟨rfl, rfl⟩
    conv => whnf
    refine ⟨_, Weak.a ?_, ?_, h⟩; (conv => whnf); exact ⟨rfl, rfl, rfl, rfl, rfl⟩; exact rfl

theorem c_ref09_Encode {a0 : Int} {a1 : Int} {a2 : Int} {a3 : Int} {a4 : Int} {a5 : Bool} {a6 : Rws} {a7 : Int} {Q : Int × Int × Int × Bool × Rws → Prop} {R : AV → List AB → Prop} (h : (g_ref09_Encode a0 a1 a2 a3 a4 a5 a6 a7).run Q) (k : ∀ r, Q r → R (.tup [.own 0, .agg [.int .i64 (r.fst), .int .i64 (r.snd.fst), .int .i64 (r.snd.snd.fst)]]) ([.arr true 5 (r.snd.snd.snd.fst) (r.snd.snd.snd.snd)])) : ACalls Try.prog tab 11 [.agg [.int .i64 (a0), .int .i64 (a1), .int .i64 (a2), .int .i64 (a3), .int .i64 (a4), .sl (a5) 50 (a6), .int .i64 (a7)]] [] R := by
  refine ACalls.out (fun r => .tup [.own 0, .agg [.int .i64 (r.fst), .int .i64 (r.snd.fst), .int .i64 (r.snd.snd.fst)]]) (fun r => [.arr true 5 (r.snd.snd.snd.fst) (r.snd.snd.snd.snd)]) (Q := Q) (ACalls.introX (mv := mv) tab_ok mixed_ (fn := Try.f11) (by kernel_rfl) rfl (by kernel_rfl) (by kernel_rfl) (Nat.le_of_ble_eq_true rfl) ?_) (fun v => by first | exact ⟨rfl, Nat.le_of_ble_eq_true rfl⟩ | (cases v <;> exact ⟨rfl, Nat.le_of_ble_eq_true rfl⟩)) k
  conv => whnf
  refine ACalls.inn (c_ref08_Check (W.bindE h) (fun v2 h => ?_)) ⟨rfl, rfl⟩
  conv => whnf
  refine ASeq.go tab_ok mixed_ ?_
  conv => whnf
  refine XSplit.mk (fun e => ?_) (fun e => ?_)
  · replace h := XSplit.t h e
    conv => whnf
    refine XDraw.d [0, 1, 2] [[], [], [1]] (by decide +kernel) ?_
    conv => whnf
    refine ⟨_, Weak.a ?_, ?_, h⟩; (conv => whnf); exact ⟨rfl, rfl, rfl, rfl, rfl⟩; exact rfl
  · replace h := XSplit.f h e
    conv => whnf
    refine ACalls.inn (c_ref09_Bytes (W.bindE h) (fun v3 h => ?_)) ⟨rfl, rfl⟩
    conv => whnf
    refine ⟨_, Weak.a ?_, ?_, h⟩; (conv => whnf); exact ⟨rfl, rfl, rfl, rfl, rfl⟩; exact rfl

theorem c_law09_plain {Q : Int × Int × Int × Int × Int × Int × Bool × Rws × Bool × Rws → Prop} {R : AV → List AB → Prop} (h : (g_law09_plain).run Q) (k : ∀ r, Q r → R (.tup [.agg [.int .i64 (r.fst), .int .i64 (r.snd.fst), .int .i64 (r.snd.snd.fst), .int .i64 (r.snd.snd.snd.fst), .int .i64 (r.snd.snd.snd.snd.fst), .own 0, .int .i64 (r.snd.snd.snd.snd.snd.fst)], .own 1]) ([.arr true 50 (r.snd.snd.snd.snd.snd.snd.fst) (r.snd.snd.snd.snd.snd.snd.snd.fst), .arr true 5 (r.snd.snd.snd.snd.snd.snd.snd.snd.fst) (r.snd.snd.snd.snd.snd.snd.snd.snd.snd)])) : ACalls Try.prog tab 28 [] [] R := by
  refine ACalls.out (fun r => .tup [.agg [.int .i64 (r.fst), .int .i64 (r.snd.fst), .int .i64 (r.snd.snd.fst), .int .i64 (r.snd.snd.snd.fst), .int .i64 (r.snd.snd.snd.snd.fst), .own 0, .int .i64 (r.snd.snd.snd.snd.snd.fst)], .own 1]) (fun r => [.arr true 50 (r.snd.snd.snd.snd.snd.snd.fst) (r.snd.snd.snd.snd.snd.snd.snd.fst), .arr true 5 (r.snd.snd.snd.snd.snd.snd.snd.snd.fst) (r.snd.snd.snd.snd.snd.snd.snd.snd.snd)]) (Q := Q) (ACalls.introX (mv := mv) tab_ok mixed_ (fn := Try.f28) (by kernel_rfl) rfl (by kernel_rfl) (by kernel_rfl) (Nat.le_of_ble_eq_true rfl) ?_) (fun v => by first | exact ⟨rfl, Nat.le_of_ble_eq_true rfl⟩ | (cases v <;> exact ⟨rfl, Nat.le_of_ble_eq_true rfl⟩)) k
  conv => whnf
  refine ⟨_, Weak.a ?_, ?_, h⟩; (conv => whnf); exact ⟨rfl, rfl, rfl, rfl, rfl⟩; exact rfl

theorem c___pack_decoder__giveUp_p {a0 : Int} {a1 : Int} {Q : Int × Int × Int → Prop} {R : AV → List AB → Prop} (h : (g___pack_decoder__giveUp_p a0 a1).run Q) (k : ∀ r, Q r → R (.iface 67 (.agg [.int .i64 (r.fst), .int .i64 (r.snd.fst), .int .i64 (r.snd.snd)])) ([.box 72 [.nilp, .int .i64 (a1)]])) : ACalls Try.prog tab 31 [.ptr 0 0, .int .i64 (a0)] [.box 72 [.nilp, .int .i64 (a1)]] R := by
  refine ACalls.out (fun r => .iface 67 (.agg [.int .i64 (r.fst), .int .i64 (r.snd.fst), .int .i64 (r.snd.snd)])) (fun r => [.box 72 [.nilp, .int .i64 (a1)]]) (Q := Q) (ACalls.introX (mv := mv) tab_ok mixed_ (fn := Try.f31) (by kernel_rfl) rfl (by kernel_rfl) (by kernel_rfl) (Nat.le_of_ble_eq_true rfl) ?_) (fun v => by first | exact ⟨rfl, Nat.le_of_ble_eq_true rfl⟩ | (cases v <;> exact ⟨rfl, Nat.le_of_ble_eq_true rfl⟩)) k
  conv => whnf
  refine ⟨_, Weak.a ?_, ?_, h⟩; (conv => whnf); exact ⟨rfl, rfl, rfl, rfl, rfl⟩; exact rfl

theorem c_slices_Clone___byte_byte_ {a0 : Bool} {a1 : Rws} {Q : Bool × Rws → Prop} {R : AV → List AB → Prop} (h : (g_slices_Clone___byte_byte_ a0 a1).run Q) (k : ∀ r, Q r → R (.own 0) ([.arr true 5 (r.fst) (r.snd)])) : ACalls Try.prog tab 50 [.sl (a0) 5 (a1)] [] R := by
  refine ACalls.out (fun r => .own 0) (fun r => [.arr true 5 (r.fst) (r.snd)]) (Q := Q) (ACalls.introX (mv := mv) tab_ok mixed_ (fn := Try.f50) (by kernel_rfl) rfl (by kernel_rfl) (by kernel_rfl) (Nat.le_of_ble_eq_true rfl) ?_) (fun v => by first | exact ⟨rfl, Nat.le_of_ble_eq_true rfl⟩ | (cases v <;> exact ⟨rfl, Nat.le_of_ble_eq_true rfl⟩)) k
  conv => whnf
  refine ASeq.go tab_ok mixed_ ?_
  conv => whnf
  refine XSplit.mk (fun e => ?_) (fun e => ?_)
  · replace h := XSplit.t h e
    conv => whnf
    refine ⟨_, Weak.a ?_, ?_, h⟩; (conv => whnf); exact ⟨rfl, rfl, rfl, rfl, rfl⟩; exact rfl
  · replace h := XSplit.f h e
    conv => whnf
    refine XNeed.mk (XNeed.c h) ?_; replace h := XNeed.x h
    conv => whnf
    refine ⟨_, Weak.a ?_, ?_, h⟩; (conv => whnf); exact ⟨rfl, rfl, rfl, rfl, rfl⟩; exact rfl

theorem c_wire_New {a0 : Bool} {a1 : Rws} {Q : Int × Int × Bool × Rws → Prop} {R : AV → List AB → Prop} (h : (g_wire_New a0 a1).run Q) (k : ∀ r, Q r → R (.ptr 0 0) ([.box 98 [.ptr 1 0, .int .i64 (r.fst)], .box 96 [.own 2, .int .i64 (r.snd.fst)], .arr true 5 (r.snd.snd.fst) (r.snd.snd.snd)])) : ACalls Try.prog tab 32 [.sl (a0) 5 (a1)] [] R := by
  refine ACalls.out (fun r => .ptr 0 0) (fun r => [.box 98 [.ptr 1 0, .int .i64 (r.fst)], .box 96 [.own 2, .int .i64 (r.snd.fst)], .arr true 5 (r.snd.snd.fst) (r.snd.snd.snd)]) (Q := Q) (ACalls.introX (mv := mv) tab_ok mixed_ (fn := Try.f32) (by kernel_rfl) rfl (by kernel_rfl) (by kernel_rfl) (Nat.le_of_ble_eq_true rfl) ?_) (fun v => by first | exact ⟨rfl, Nat.le_of_ble_eq_true rfl⟩ | (cases v <;> exact ⟨rfl, Nat.le_of_ble_eq_true rfl⟩)) k
  conv => whnf
  refine ACalls.inn (c_slices_Clone___byte_byte_ (W.bindE h) (fun v1 h => ?_)) ⟨rfl, rfl⟩
  conv => whnf
  refine ⟨_, Weak.a ?_, ?_, h⟩; (conv => whnf); exact ⟨rfl, rfl, rfl, rfl, rfl⟩; exact rfl

theorem c_math_bits_RotateLeft64 {a0 : Int} {a1 : Int} {Q : Int → Prop} {R : AV → List AB → Prop} (h : (g_math_bits_RotateLeft64 a0 a1).run Q) (k : ∀ r, Q r → R (.int .u64 (r)) ([])) : ACalls Try.prog tab 97 [.int .u64 (a0), .int .i64 (a1)] [] R := by
  refine ACalls.out (fun r => .int .u64 (r)) (fun r => []) (Q := Q) (ACalls.introX (mv := mv) tab_ok mixed_ (fn := Try.f97) (by kernel_rfl) rfl (by kernel_rfl) (by kernel_rfl) (Nat.le_of_ble_eq_true rfl) ?_) (fun v => by first | exact ⟨rfl, Nat.le_of_ble_eq_true rfl⟩ | (cases v <;> exact ⟨rfl, Nat.le_of_ble_eq_true rfl⟩)) k
  conv => whnf
  refine XNeed.mk (XNeed.c h) ?_; replace h := XNeed.x h
  conv => whnf
  refine XNeed.mk (XNeed.c h) ?_; replace h := XNeed.x h
  conv => whnf
  refine ⟨_, Weak.a ?_, ?_, h⟩; (conv => whnf); exact ⟨rfl, rfl, rfl, rfl, rfl⟩; exact rfl

theorem c___wire_cursor__peek_p {a0 : Bool} {a1 : Rws} {a2 : Int} {Q : Int × Int × Int → Prop} {R : AV → List AB → Prop} (h : (g___wire_cursor__peek_p a0 a1 a2).run Q) (k : ∀ r, Q r → R (.tup [.int .u64 (r.fst), .int .i64 (r.snd.fst), .int .i64 (r.snd.snd)]) ([.box 96 [.sl (a0) 5 (a1), .int .i64 (a2)]])) : ACalls Try.prog tab 92 [.ptr 0 0] [.box 96 [.sl (a0) 5 (a1), .int .i64 (a2)]] R := by
  refine ACalls.out (fun r => .tup [.int .u64 (r.fst), .int .i64 (r.snd.fst), .int .i64 (r.snd.snd)]) (fun r => [.box 96 [.sl (a0) 5 (a1), .int .i64 (a2)]]) (Q := Q) (ACalls.introX (mv := mv) tab_ok mixed_ (fn := Try.f92) (by kernel_rfl) rfl (by kernel_rfl) (by kernel_rfl) (Nat.le_of_ble_eq_true rfl) ?_) (fun v => by first | exact ⟨rfl, Nat.le_of_ble_eq_true rfl⟩ | (cases v <;> exact ⟨rfl, Nat.le_of_ble_eq_true rfl⟩)) k
  conv => whnf
  refine ASeq.go tab_ok mixed_ ?_
  conv => whnf
  refine XDraw.q [0, 1, 2, 3, 4, 5, 6, 7, 8, 9, 10] (by decide +kernel) ?_
  conv => whnf
  refine XNeed.mk (XNeed.c h) ?_; replace h := XNeed.x h
  conv => whnf
  refine ALoop.ofW tab_ok mixed_ (fun v4 => ⟨[(2, .int .u64 (0)), (3, .int .i64 (0)), (4, .int .i64 (0)), (5, .int .u64 (v4.fst)), (16, .sl (a0) 5 (List.take ((↑(List.length a1) : Int) - a2).toNat (List.drop a2.toNat a1))), (17, .int .i64 ((↑(List.take ((↑(List.length a1) : Int) - a2).toNat (List.drop a2.toNat a1)).length : Int))), (18, .int .i64 (v4.snd))], [(0, .box 96 [.sl (a0) 5 (a1), .int .i64 (a2)])], 1, [], []⟩) (sx (fun v5 => (.ret, ⟨[(2, .int .u64 (v5.fst)), (3, .int .i64 (v5.snd.fst)), (4, .int .i64 (v5.snd.snd))], [(0, .box 96 [.sl (a0) 5 (a1), .int .i64 (a2)])], 1, [], []⟩)) (fun v6 => (.exit 0, ⟨[(2, .int .u64 (0)), (3, .int .i64 (0)), (4, .int .i64 (0))], [(0, .box 96 [.sl (a0) 5 (a1), .int .i64 (a2)])], 1, [], []⟩))) (W.bindE h) (Weak.a ?_) (fun v4 J_ Q h => ?_) (fun v h => ?_)
  · conv => whnf
    exact ⟨rfl, rfl, rfl, rfl, rfl⟩
  · conv => whnf
    refine ASeq.go tab_ok mixed_ ?_
    conv => whnf
    refine XSplit.mk (fun e => ?_) (fun e => ?_)
    · replace h := XSplit.t h e
      conv => whnf
      refine ASeq.go tab_ok mixed_ ?_
      conv => whnf
      refine XNeed.mk (XNeed.c h) ?_; replace h := XNeed.x h
      conv => whnf
      refine ASeq.go tab_ok mixed_ ?_
      conv => whnf
      refine XSplit.mk (fun e => ?_) (fun e => ?_)
      · replace h := XSplit.t h e
        conv => whnf
        refine ⟨_, ?_, Weak.a ?_, h⟩; exact rfl; (conv => whnf); exact ⟨rfl, rfl, rfl, rfl, rfl⟩
      · replace h := XSplit.f h e
        conv => whnf
        refine ACalls.inn (c_math_bits_RotateLeft64 (W.bindE h) (fun v7 h => ?_)) ⟨rfl, rfl⟩
        conv => whnf
        refine XSplit.mk (fun e => ?_) (fun e => ?_)
        · replace h := XSplit.t h e
          conv => whnf
          refine ASeq.go tab_ok mixed_ ?_
          conv => whnf
          refine XSplit.mk (fun e => ?_) (fun e => ?_)
          · replace h := XSplit.t h e
            conv => whnf
            refine ⟨_, ?_, Weak.a ?_, h⟩; exact rfl; (conv => whnf); exact ⟨rfl, rfl, rfl, rfl, rfl⟩
          · replace h := XSplit.f h e
            conv => whnf
            refine ⟨_, ?_, Weak.a ?_, h⟩; exact rfl; (conv => whnf); exact ⟨rfl, rfl, rfl, rfl, rfl⟩
        · replace h := XSplit.f h e
          conv => whnf
          refine ⟨_, Weak.a ?_, h⟩; (conv => whnf); exact ⟨rfl, rfl, rfl, rfl, rfl⟩
    · replace h := XSplit.f h e
      conv => whnf
      refine ⟨_, ?_, Weak.a ?_, h⟩; exact rfl; (conv => whnf); exact ⟨rfl, rfl, rfl, rfl, rfl⟩
  · rcases v with v5 | v6
    · conv => whnf
      refine ⟨_, Weak.a ?_, ?_, h⟩; (conv => whnf); exact ⟨rfl, rfl, rfl, rfl, rfl⟩; exact rfl
    · conv => whnf
      refine ⟨_, Weak.a ?_, ?_, h⟩; (conv => whnf); exact ⟨rfl, rfl, rfl, rfl, rfl⟩; exact rfl

theorem c___wire_Reader__take_p {a0 : Int} {a1 : Int} {a2 : Bool} {a3 : Rws} {a4 : Int} {Q : Int × Int × Int → Prop} {R : AV → List AB → Prop} (h : (g___wire_Reader__take_p a0 a1 a2 a3 a4).run Q) (k : ∀ r, Q r → R (.int .u64 (r.fst)) ([.box 98 [.ptr 1 0, .int .i64 (r.snd.fst)], .box 96 [.sl (a2) 5 (a3), .int .i64 (r.snd.snd)]])) : ACalls Try.prog tab 73 [.ptr 0 0, .int .u64 (a0)] [.box 98 [.ptr 1 0, .int .i64 (a1)], .box 96 [.sl (a2) 5 (a3), .int .i64 (a4)]] R := by
  refine ACalls.out (fun r => .int .u64 (r.fst)) (fun r => [.box 98 [.ptr 1 0, .int .i64 (r.snd.fst)], .box 96 [.sl (a2) 5 (a3), .int .i64 (r.snd.snd)]]) (Q := Q) (ACalls.introX (mv := mv) tab_ok mixed_ (fn := Try.f73) (by kernel_rfl) rfl (by kernel_rfl) (by kernel_rfl) (Nat.le_of_ble_eq_true rfl) ?_) (fun v => by first | exact ⟨rfl, Nat.le_of_ble_eq_true rfl⟩ | (cases v <;> exact ⟨rfl, Nat.le_of_ble_eq_true rfl⟩)) k
  conv => whnf
  refine ASeq.go tab_ok mixed_ ?_
  conv => whnf
  refine XSplit.mk (fun e => ?_) (fun e => ?_)
  · replace h := XSplit.t h e
    conv => whnf
    refine ⟨_, Weak.a ?_, ?_, h⟩; (conv => whnf); exact ⟨rfl, rfl, rfl, rfl, rfl⟩; exact rfl
  · replace h := XSplit.f h e
    conv => whnf
    refine ACalls.inn (c___wire_cursor__peek_p (W.bindE h) (fun v2 h => ?_)) ⟨rfl, rfl⟩
    conv => whnf
    refine ASeq.joinW tab_ok mixed_ (fun v3 => ⟨[(0, .ptr 0 0), (4, .int .u64 (0)), (5, .int .u64 (v2.fst)), (6, .int .i64 (v2.snd.fst)), (7, .int .i64 (v3))], [(0, .box 98 [.ptr 1 0, .int .i64 (a1)]), (1, .box 96 [.sl (a2) 5 (a3), .int .i64 (a4)])], 2, [], []⟩) h (fun Q h => ?_) (fun v3 h => ?_)
    · conv => whnf
      refine XSplit.mk (fun e => ?_) (fun e => ?_)
      · replace h := XSplit.t h e
        conv => whnf
        refine ⟨_, Weak.a ?_, h⟩; (conv => whnf); exact ⟨rfl, rfl, rfl, rfl, rfl⟩
      · replace h := XSplit.f h e
        conv => whnf
        refine ⟨_, Weak.a ?_, h⟩; (conv => whnf); exact ⟨rfl, rfl, rfl, rfl, rfl⟩
    · conv => whnf
      refine ASeq.go tab_ok mixed_ ?_
      conv => whnf
      refine XSplit.mk (fun e => ?_) (fun e => ?_)
      · replace h := XSplit.t h e
        conv => whnf
        refine ⟨_, Weak.a ?_, ?_, h⟩; (conv => whnf); exact ⟨rfl, rfl, rfl, rfl, rfl⟩; exact rfl
      · replace h := XSplit.f h e
        conv => whnf
        refine ⟨_, Weak.a ?_, ?_, h⟩; (conv => whnf); exact ⟨rfl, rfl, rfl, rfl, rfl⟩; exact rfl

theorem c___wire_Reader__U_p {a0 : Int} {a1 : Bool} {a2 : Rws} {a3 : Int} {Q : Int × Int × Int → Prop} {R : AV → List AB → Prop} (h : (g___wire_Reader__U_p a0 a1 a2 a3).run Q) (k : ∀ r, Q r → R (.int .u64 (r.fst)) ([.box 98 [.ptr 1 0, .int .i64 (r.snd.fst)], .box 96 [.sl (a1) 5 (a2), .int .i64 (r.snd.snd)]])) : ACalls Try.prog tab 51 [.ptr 0 0] [.box 98 [.ptr 1 0, .int .i64 (a0)], .box 96 [.sl (a1) 5 (a2), .int .i64 (a3)]] R := by
  refine ACalls.out (fun r => .int .u64 (r.fst)) (fun r => [.box 98 [.ptr 1 0, .int .i64 (r.snd.fst)], .box 96 [.sl (a1) 5 (a2), .int .i64 (r.snd.snd)]]) (Q := Q) (ACalls.introX (mv := mv) tab_ok mixed_ (fn := Try.f51) (by kernel_rfl) rfl (by kernel_rfl) (by kernel_rfl) (Nat.le_of_ble_eq_true rfl) ?_) (fun v => by first | exact ⟨rfl, Nat.le_of_ble_eq_true rfl⟩ | (cases v <;> exact ⟨rfl, Nat.le_of_ble_eq_true rfl⟩)) k
  conv => whnf
  refine ACalls.inn (c___wire_Reader__take_p (W.bindE h) (fun v1 h => ?_)) ⟨rfl, rfl⟩
  conv => whnf
  refine ⟨_, Weak.a ?_, ?_, h⟩; (conv => whnf); exact ⟨rfl, rfl, rfl, rfl, rfl⟩; exact rfl

theorem c___wire_Reader__Err_p {a0 : Int} {a1 : Bool} {a2 : Rws} {a3 : Int} {Q : Int → Prop} {R : AV → List AB → Prop} (h : (g___wire_Reader__Err_p a0 a1 a2 a3).run Q) (k : ∀ r, Q r → R (.int .i64 (r)) ([.box 98 [.ptr 1 0, .int .i64 (a0)], .box 96 [.sl (a1) 5 (a2), .int .i64 (a3)]])) : ACalls Try.prog tab 55 [.ptr 0 0] [.box 98 [.ptr 1 0, .int .i64 (a0)], .box 96 [.sl (a1) 5 (a2), .int .i64 (a3)]] R := by
  refine ACalls.out (fun r => .int .i64 (r)) (fun r => [.box 98 [.ptr 1 0, .int .i64 (a0)], .box 96 [.sl (a1) 5 (a2), .int .i64 (a3)]]) (Q := Q) (ACalls.introX (mv := mv) tab_ok mixed_ (fn := Try.f55) (by kernel_rfl) rfl (by kernel_rfl) (by kernel_rfl) (Nat.le_of_ble_eq_true rfl) ?_) (fun v => by first | exact ⟨rfl, Nat.le_of_ble_eq_true rfl⟩ | (cases v <;> exact ⟨rfl, Nat.le_of_ble_eq_true rfl⟩)) k
  conv => whnf
  refine ASeq.go tab_ok mixed_ ?_
  conv => whnf
  refine XSplit.ff rfl ?_
  conv => whnf
  refine ⟨_, Weak.a ?_, ?_, h⟩; (conv => whnf); exact ⟨rfl, rfl, rfl, rfl, rfl⟩; exact rfl

theorem c___pack_decoder__giveUp_p_2 {a0 : Int} {a1 : Int} {a2 : Int} {a3 : Bool} {a4 : Rws} {a5 : Int} {Q : Int × Int × Int → Prop} {R : AV → List AB → Prop} (h : (g___pack_decoder__giveUp_p_2 a0 a1 a2 a3 a4 a5).run Q) (k : ∀ r, Q r → R (.iface 67 (.agg [.int .i64 (r.fst), .int .i64 (r.snd.fst), .int .i64 (r.snd.snd)])) ([.box 72 [.ptr 1 0, .int .i64 (a1)], .box 98 [.ptr 2 0, .int .i64 (a2)], .box 96 [.sl (a3) 5 (a4), .int .i64 (a5)]])) : ACalls Try.prog tab 31 [.ptr 0 0, .int .i64 (a0)] [.box 72 [.ptr 1 0, .int .i64 (a1)], .box 98 [.ptr 2 0, .int .i64 (a2)], .box 96 [.sl (a3) 5 (a4), .int .i64 (a5)]] R := by
  refine ACalls.out (fun r => .iface 67 (.agg [.int .i64 (r.fst), .int .i64 (r.snd.fst), .int .i64 (r.snd.snd)])) (fun r => [.box 72 [.ptr 1 0, .int .i64 (a1)], .box 98 [.ptr 2 0, .int .i64 (a2)], .box 96 [.sl (a3) 5 (a4), .int .i64 (a5)]]) (Q := Q) (ACalls.introX (mv := mv) tab_ok mixed_ (fn := Try.f31) (by kernel_rfl) rfl (by kernel_rfl) (by kernel_rfl) (Nat.le_of_ble_eq_true rfl) ?_) (fun v => by first | exact ⟨rfl, Nat.le_of_ble_eq_true rfl⟩ | (cases v <;> exact ⟨rfl, Nat.le_of_ble_eq_true rfl⟩)) k
  conv => whnf
  refine ⟨_, Weak.a ?_, ?_, h⟩; (conv => whnf); exact ⟨rfl, rfl, rfl, rfl, rfl⟩; exact rfl

theorem c___pack_decoder__sure_p {a0 : Int} {a1 : Int} {a2 : Bool} {a3 : Rws} {a4 : Int} {Q : (Unit) ⊕ (Int × Int × Int) → Prop} {R : AV → List AB → Prop} (h : (g___pack_decoder__sure_p a0 a1 a2 a3 a4).run Q) (k : ∀ r, Q r → R (sx (fun r => .tup []) (fun r => .iface 67 (.agg [.int .i64 (r.fst), .int .i64 (r.snd.fst), .int .i64 (r.snd.snd)])) r) (sx (fun r => [.box 72 [.ptr 1 0, .int .i64 (a0)], .box 98 [.ptr 2 0, .int .i64 (a1)], .box 96 [.sl (a2) 5 (a3), .int .i64 (a4)]]) (fun r => [.box 72 [.ptr 1 0, .int .i64 (a0)], .box 98 [.ptr 2 0, .int .i64 (a1)], .box 96 [.sl (a2) 5 (a3), .int .i64 (a4)]]) r)) : ACalls Try.prog tab 52 [.ptr 0 0] [.box 72 [.ptr 1 0, .int .i64 (a0)], .box 98 [.ptr 2 0, .int .i64 (a1)], .box 96 [.sl (a2) 5 (a3), .int .i64 (a4)]] R := by
  refine ACalls.out (fun r => sx (fun r => .tup []) (fun r => .iface 67 (.agg [.int .i64 (r.fst), .int .i64 (r.snd.fst), .int .i64 (r.snd.snd)])) r) (fun r => sx (fun r => [.box 72 [.ptr 1 0, .int .i64 (a0)], .box 98 [.ptr 2 0, .int .i64 (a1)], .box 96 [.sl (a2) 5 (a3), .int .i64 (a4)]]) (fun r => [.box 72 [.ptr 1 0, .int .i64 (a0)], .box 98 [.ptr 2 0, .int .i64 (a1)], .box 96 [.sl (a2) 5 (a3), .int .i64 (a4)]]) r) (Q := Q) (ACalls.introX (mv := mv) tab_ok mixed_ (fn := Try.f52) (by kernel_rfl) rfl (by kernel_rfl) (by kernel_rfl) (Nat.le_of_ble_eq_true rfl) ?_) (fun v => by first | exact ⟨rfl, Nat.le_of_ble_eq_true rfl⟩ | (cases v <;> exact ⟨rfl, Nat.le_of_ble_eq_true rfl⟩)) k
  conv => whnf
  refine ACalls.inn (c___wire_Reader__Err_p (W.bindE h) (fun v2 h => ?_)) ⟨rfl, rfl⟩
  conv => whnf
  refine XSplit.mk (fun e => ?_) (fun e => ?_)
  · replace h := XSplit.t h e
    conv => whnf
    refine ACalls.inn (c___pack_decoder__giveUp_p_2 (W.bindE h) (fun v3 h => ?_)) ⟨rfl, rfl⟩
    conv => whnf
    refine ⟨_, Weak.a ?_, ?_, h⟩; (conv => whnf); exact ⟨rfl, rfl, rfl, rfl, rfl⟩; exact rfl
  · replace h := XSplit.f h e
    conv => whnf
    refine ⟨_, Weak.a ?_, ?_, h⟩; (conv => whnf); exact ⟨rfl, rfl, rfl, rfl, rfl⟩; exact rfl

theorem c___pack_decoder__u_p {a0 : Int} {a1 : Int} {a2 : Bool} {a3 : Rws} {a4 : Int} {Q : (Int × Int × Int) ⊕ (Int × Int × Int × Int × Int) → Prop} {R : AV → List AB → Prop} (h : (g___pack_decoder__u_p a0 a1 a2 a3 a4).run Q) (k : ∀ r, Q r → R (sx (fun r => .int .i64 (r.fst)) (fun r => .iface 67 (.agg [.int .i64 (r.fst), .int .i64 (r.snd.fst), .int .i64 (r.snd.snd.fst)])) r) (sx (fun r => [.box 72 [.ptr 1 0, .int .i64 (a0)], .box 98 [.ptr 2 0, .int .i64 (r.snd.fst)], .box 96 [.sl (a2) 5 (a3), .int .i64 (r.snd.snd)]]) (fun r => [.box 72 [.ptr 1 0, .int .i64 (a0)], .box 98 [.ptr 2 0, .int .i64 (r.snd.snd.snd.fst)], .box 96 [.sl (a2) 5 (a3), .int .i64 (r.snd.snd.snd.snd)]]) r)) : ACalls Try.prog tab 33 [.ptr 0 0] [.box 72 [.ptr 1 0, .int .i64 (a0)], .box 98 [.ptr 2 0, .int .i64 (a1)], .box 96 [.sl (a2) 5 (a3), .int .i64 (a4)]] R := by
  refine ACalls.out (fun r => sx (fun r => .int .i64 (r.fst)) (fun r => .iface 67 (.agg [.int .i64 (r.fst), .int .i64 (r.snd.fst), .int .i64 (r.snd.snd.fst)])) r) (fun r => sx (fun r => [.box 72 [.ptr 1 0, .int .i64 (a0)], .box 98 [.ptr 2 0, .int .i64 (r.snd.fst)], .box 96 [.sl (a2) 5 (a3), .int .i64 (r.snd.snd)]]) (fun r => [.box 72 [.ptr 1 0, .int .i64 (a0)], .box 98 [.ptr 2 0, .int .i64 (r.snd.snd.snd.fst)], .box 96 [.sl (a2) 5 (a3), .int .i64 (r.snd.snd.snd.snd)]]) r) (Q := Q) (ACalls.introX (mv := mv) tab_ok mixed_ (fn := Try.f33) (by kernel_rfl) rfl (by kernel_rfl) (by kernel_rfl) (Nat.le_of_ble_eq_true rfl) ?_) (fun v => by first | exact ⟨rfl, Nat.le_of_ble_eq_true rfl⟩ | (cases v <;> exact ⟨rfl, Nat.le_of_ble_eq_true rfl⟩)) k
  conv => whnf
  refine ACalls.inn (c___wire_Reader__U_p (W.bindE h) (fun v4 h => ?_)) ⟨rfl, rfl⟩
  conv => whnf
  refine ACalls.inn (c___pack_decoder__sure_p (W.bindE h) (fun v h => ?_)) ⟨rfl, rfl⟩
  rcases v with v5 | v7
  · conv => whnf
    refine ASeq.go tab_ok mixed_ ?_
    conv => whnf
    refine XSplit.mk (fun e => ?_) (fun e => ?_)
    · replace h := XSplit.t h e
      conv => whnf
      refine ACalls.inn (c___pack_decoder__giveUp_p_2 (W.bindE h) (fun v6 h => ?_)) ⟨rfl, rfl⟩
      conv => whnf
      refine ⟨_, Weak.a ?_, ?_, h⟩; (conv => whnf); exact ⟨rfl, rfl, rfl, rfl, rfl⟩; exact rfl
    · replace h := XSplit.f h e
      conv => whnf
      refine ⟨_, Weak.a ?_, ?_, h⟩; (conv => whnf); exact ⟨rfl, rfl, rfl, rfl, rfl⟩; exact rfl
  · conv => whnf
    refine ⟨_, Weak.a ?_, ?_, h⟩; (conv => whnf); exact ⟨rfl, rfl, rfl, rfl, rfl⟩; exact rfl

theorem c___wire_Reader__S_p {a0 : Int} {a1 : Bool} {a2 : Rws} {a3 : Int} {Q : Int × Int × Int → Prop} {R : AV → List AB → Prop} (h : (g___wire_Reader__S_p a0 a1 a2 a3).run Q) (k : ∀ r, Q r → R (.int .i64 (r.fst)) ([.box 98 [.ptr 1 0, .int .i64 (r.snd.fst)], .box 96 [.sl (a1) 5 (a2), .int .i64 (r.snd.snd)]])) : ACalls Try.prog tab 74 [.ptr 0 0] [.box 98 [.ptr 1 0, .int .i64 (a0)], .box 96 [.sl (a1) 5 (a2), .int .i64 (a3)]] R := by
  refine ACalls.out (fun r => .int .i64 (r.fst)) (fun r => [.box 98 [.ptr 1 0, .int .i64 (r.snd.fst)], .box 96 [.sl (a1) 5 (a2), .int .i64 (r.snd.snd)]]) (Q := Q) (ACalls.introX (mv := mv) tab_ok mixed_ (fn := Try.f74) (by kernel_rfl) rfl (by kernel_rfl) (by kernel_rfl) (Nat.le_of_ble_eq_true rfl) ?_) (fun v => by first | exact ⟨rfl, Nat.le_of_ble_eq_true rfl⟩ | (cases v <;> exact ⟨rfl, Nat.le_of_ble_eq_true rfl⟩)) k
  conv => whnf
  refine ACalls.inn (c___wire_Reader__take_p (W.bindE h) (fun v1 h => ?_)) ⟨rfl, rfl⟩
  conv => whnf
  refine XNeed.mk (of_decide_eq_true rfl) ?_
  conv => whnf
  refine ⟨_, Weak.a ?_, ?_, h⟩; (conv => whnf); exact ⟨rfl, rfl, rfl, rfl, rfl⟩; exact rfl

theorem c___pack_decoder__s_p {a0 : Int} {a1 : Int} {a2 : Int} {a3 : Int} {a4 : Bool} {a5 : Rws} {a6 : Int} {Q : (Int × Int × Int) ⊕ (Int × Int × Int × Int × Int) → Prop} {R : AV → List AB → Prop} (h : (g___pack_decoder__s_p a0 a1 a2 a3 a4 a5 a6).run Q) (k : ∀ r, Q r → R (sx (fun r => .int .i64 (r.fst)) (fun r => .iface 67 (.agg [.int .i64 (r.fst), .int .i64 (r.snd.fst), .int .i64 (r.snd.snd.fst)])) r) (sx (fun r => [.box 72 [.ptr 1 0, .int .i64 (a2)], .box 98 [.ptr 2 0, .int .i64 (r.snd.fst)], .box 96 [.sl (a4) 5 (a5), .int .i64 (r.snd.snd)]]) (fun r => [.box 72 [.ptr 1 0, .int .i64 (a2)], .box 98 [.ptr 2 0, .int .i64 (r.snd.snd.snd.fst)], .box 96 [.sl (a4) 5 (a5), .int .i64 (r.snd.snd.snd.snd)]]) r)) : ACalls Try.prog tab 53 [.ptr 0 0, .int .i64 (a0), .int .i64 (a1)] [.box 72 [.ptr 1 0, .int .i64 (a2)], .box 98 [.ptr 2 0, .int .i64 (a3)], .box 96 [.sl (a4) 5 (a5), .int .i64 (a6)]] R := by
  refine ACalls.out (fun r => sx (fun r => .int .i64 (r.fst)) (fun r => .iface 67 (.agg [.int .i64 (r.fst), .int .i64 (r.snd.fst), .int .i64 (r.snd.snd.fst)])) r) (fun r => sx (fun r => [.box 72 [.ptr 1 0, .int .i64 (a2)], .box 98 [.ptr 2 0, .int .i64 (r.snd.fst)], .box 96 [.sl (a4) 5 (a5), .int .i64 (r.snd.snd)]]) (fun r => [.box 72 [.ptr 1 0, .int .i64 (a2)], .box 98 [.ptr 2 0, .int .i64 (r.snd.snd.snd.fst)], .box 96 [.sl (a4) 5 (a5), .int .i64 (r.snd.snd.snd.snd)]]) r) (Q := Q) (ACalls.introX (mv := mv) tab_ok mixed_ (fn := Try.f53) (by kernel_rfl) rfl (by kernel_rfl) (by kernel_rfl) (Nat.le_of_ble_eq_true rfl) ?_) (fun v => by first | exact ⟨rfl, Nat.le_of_ble_eq_true rfl⟩ | (cases v <;> exact ⟨rfl, Nat.le_of_ble_eq_true rfl⟩)) k
  conv => whnf
  refine ACalls.inn (c___wire_Reader__S_p (W.bindE h) (fun v4 h => ?_)) ⟨rfl, rfl⟩
  conv => whnf
  refine ACalls.inn (c___pack_decoder__sure_p (W.bindE h) (fun v h => ?_)) ⟨rfl, rfl⟩
  rcases v with v5 | v7
  · conv => whnf
    refine ASeq.go tab_ok mixed_ ?_
    conv => whnf
    refine XSplit.mk (fun e => ?_) (fun e => ?_)
    · replace h := XSplit.t h e
      conv => whnf
      refine ACalls.inn (c___pack_decoder__giveUp_p_2 (W.bindE h) (fun v6 h => ?_)) ⟨rfl, rfl⟩
      conv => whnf
      refine ⟨_, Weak.a ?_, ?_, h⟩; (conv => whnf); exact ⟨rfl, rfl, rfl, rfl, rfl⟩; exact rfl
    · replace h := XSplit.f h e
      conv => whnf
      refine ⟨_, Weak.a ?_, ?_, h⟩; (conv => whnf); exact ⟨rfl, rfl, rfl, rfl, rfl⟩; exact rfl
  · conv => whnf
    refine ⟨_, Weak.a ?_, ?_, h⟩; (conv => whnf); exact ⟨rfl, rfl, rfl, rfl, rfl⟩; exact rfl

theorem c___pack_decoder__s32_p {a0 : Int} {a1 : Int} {a2 : Bool} {a3 : Rws} {a4 : Int} {Q : (Int × Int × Int) ⊕ (Int × Int × Int × Int × Int) → Prop} {R : AV → List AB → Prop} (h : (g___pack_decoder__s32_p a0 a1 a2 a3 a4).run Q) (k : ∀ r, Q r → R (sx (fun r => .int .i64 (r.fst)) (fun r => .iface 67 (.agg [.int .i64 (r.fst), .int .i64 (r.snd.fst), .int .i64 (r.snd.snd.fst)])) r) (sx (fun r => [.box 72 [.ptr 1 0, .int .i64 (a0)], .box 98 [.ptr 2 0, .int .i64 (r.snd.fst)], .box 96 [.sl (a2) 5 (a3), .int .i64 (r.snd.snd)]]) (fun r => [.box 72 [.ptr 1 0, .int .i64 (a0)], .box 98 [.ptr 2 0, .int .i64 (r.snd.snd.snd.fst)], .box 96 [.sl (a2) 5 (a3), .int .i64 (r.snd.snd.snd.snd)]]) r)) : ACalls Try.prog tab 34 [.ptr 0 0] [.box 72 [.ptr 1 0, .int .i64 (a0)], .box 98 [.ptr 2 0, .int .i64 (a1)], .box 96 [.sl (a2) 5 (a3), .int .i64 (a4)]] R := by
  refine ACalls.out (fun r => sx (fun r => .int .i64 (r.fst)) (fun r => .iface 67 (.agg [.int .i64 (r.fst), .int .i64 (r.snd.fst), .int .i64 (r.snd.snd.fst)])) r) (fun r => sx (fun r => [.box 72 [.ptr 1 0, .int .i64 (a0)], .box 98 [.ptr 2 0, .int .i64 (r.snd.fst)], .box 96 [.sl (a2) 5 (a3), .int .i64 (r.snd.snd)]]) (fun r => [.box 72 [.ptr 1 0, .int .i64 (a0)], .box 98 [.ptr 2 0, .int .i64 (r.snd.snd.snd.fst)], .box 96 [.sl (a2) 5 (a3), .int .i64 (r.snd.snd.snd.snd)]]) r) (Q := Q) (ACalls.introX (mv := mv) tab_ok mixed_ (fn := Try.f34) (by kernel_rfl) rfl (by kernel_rfl) (by kernel_rfl) (Nat.le_of_ble_eq_true rfl) ?_) (fun v => by first | exact ⟨rfl, Nat.le_of_ble_eq_true rfl⟩ | (cases v <;> exact ⟨rfl, Nat.le_of_ble_eq_true rfl⟩)) k
  conv => whnf
  refine ACalls.inn (c___pack_decoder__s_p (W.bindE h) (fun v h => ?_)) ⟨rfl, rfl⟩
  rcases v with v2 | v3
  · conv => whnf
    refine ⟨_, Weak.a ?_, ?_, h⟩; (conv => whnf); exact ⟨rfl, rfl, rfl, rfl, rfl⟩; exact rfl
  · conv => whnf
    refine ⟨_, Weak.a ?_, ?_, h⟩; (conv => whnf); exact ⟨rfl, rfl, rfl, rfl, rfl⟩; exact rfl

theorem c___wire_Reader__N_p {a0 : Int} {a1 : Int} {a2 : Bool} {a3 : Rws} {a4 : Int} {Q : Int × Int × Int → Prop} {R : AV → List AB → Prop} (h : (g___wire_Reader__N_p a0 a1 a2 a3 a4).run Q) (k : ∀ r, Q r → R (.int .i64 (r.fst)) ([.box 98 [.ptr 1 0, .int .i64 (r.snd.fst)], .box 96 [.sl (a2) 5 (a3), .int .i64 (r.snd.snd)]])) : ACalls Try.prog tab 54 [.ptr 0 0, .int .i64 (a0)] [.box 98 [.ptr 1 0, .int .i64 (a1)], .box 96 [.sl (a2) 5 (a3), .int .i64 (a4)]] R := by
  refine ACalls.out (fun r => .int .i64 (r.fst)) (fun r => [.box 98 [.ptr 1 0, .int .i64 (r.snd.fst)], .box 96 [.sl (a2) 5 (a3), .int .i64 (r.snd.snd)]]) (Q := Q) (ACalls.introX (mv := mv) tab_ok mixed_ (fn := Try.f54) (by kernel_rfl) rfl (by kernel_rfl) (by kernel_rfl) (Nat.le_of_ble_eq_true rfl) ?_) (fun v => by first | exact ⟨rfl, Nat.le_of_ble_eq_true rfl⟩ | (cases v <;> exact ⟨rfl, Nat.le_of_ble_eq_true rfl⟩)) k
  conv => whnf
  refine ASeq.go tab_ok mixed_ ?_
  conv => whnf
  refine XSplit.mk (fun e => ?_) (fun e => ?_)
  · replace h := XSplit.t h e
    conv => whnf
    refine ACalls.inn (c___wire_Reader__take_p (W.bindE h) (fun v3 h => ?_)) ⟨rfl, rfl⟩
    conv => whnf
    refine ⟨_, Weak.a ?_, ?_, h⟩; (conv => whnf); exact ⟨rfl, rfl, rfl, rfl, rfl⟩; exact rfl
  · replace h := XSplit.f h e
    conv => whnf
    refine ASeq.joinW tab_ok mixed_ (fun v4 => ⟨[(4, .int .i64 (0))], [(0, .box 98 [.ptr 1 0, .int .i64 (v4.fst)]), (1, .box 96 [.sl (a2) 5 (a3), .int .i64 (v4.snd)])], 2, [], []⟩) h (fun Q h => ?_) (fun v4 h => ?_)
    · conv => whnf
      refine ACalls.inn (c___wire_Reader__take_p (W.bindE h) (fun v5 h => ?_)) ⟨rfl, rfl⟩
      conv => whnf
      refine XSplit.mk (fun e => ?_) (fun e => ?_)
      · replace h := XSplit.t h e
        conv => whnf
        refine ⟨_, Weak.a ?_, h⟩; (conv => whnf); exact ⟨rfl, rfl, rfl, rfl, rfl⟩
      · replace h := XSplit.f h e
        conv => whnf
        refine ⟨_, Weak.a ?_, h⟩; (conv => whnf); exact ⟨rfl, rfl, rfl, rfl, rfl⟩
    · conv => whnf
      refine ⟨_, Weak.a ?_, ?_, h⟩; (conv => whnf); exact ⟨rfl, rfl, rfl, rfl, rfl⟩; exact rfl

theorem c___pack_decoder__n_p {a0 : Int} {a1 : Int} {a2 : Int} {a3 : Bool} {a4 : Rws} {a5 : Int} {Q : (Int × Int × Int) ⊕ (Int × Int × Int × Int × Int) → Prop} {R : AV → List AB → Prop} (h : (g___pack_decoder__n_p a0 a1 a2 a3 a4 a5).run Q) (k : ∀ r, Q r → R (sx (fun r => .int .i64 (r.fst)) (fun r => .iface 67 (.agg [.int .i64 (r.fst), .int .i64 (r.snd.fst), .int .i64 (r.snd.snd.fst)])) r) (sx (fun r => [.box 72 [.ptr 1 0, .int .i64 (a1)], .box 98 [.ptr 2 0, .int .i64 (r.snd.fst)], .box 96 [.sl (a3) 5 (a4), .int .i64 (r.snd.snd)]]) (fun r => [.box 72 [.ptr 1 0, .int .i64 (a1)], .box 98 [.ptr 2 0, .int .i64 (r.snd.snd.snd.fst)], .box 96 [.sl (a3) 5 (a4), .int .i64 (r.snd.snd.snd.snd)]]) r)) : ACalls Try.prog tab 35 [.ptr 0 0, .int .i64 (a0)] [.box 72 [.ptr 1 0, .int .i64 (a1)], .box 98 [.ptr 2 0, .int .i64 (a2)], .box 96 [.sl (a3) 5 (a4), .int .i64 (a5)]] R := by
  refine ACalls.out (fun r => sx (fun r => .int .i64 (r.fst)) (fun r => .iface 67 (.agg [.int .i64 (r.fst), .int .i64 (r.snd.fst), .int .i64 (r.snd.snd.fst)])) r) (fun r => sx (fun r => [.box 72 [.ptr 1 0, .int .i64 (a1)], .box 98 [.ptr 2 0, .int .i64 (r.snd.fst)], .box 96 [.sl (a3) 5 (a4), .int .i64 (r.snd.snd)]]) (fun r => [.box 72 [.ptr 1 0, .int .i64 (a1)], .box 98 [.ptr 2 0, .int .i64 (r.snd.snd.snd.fst)], .box 96 [.sl (a3) 5 (a4), .int .i64 (r.snd.snd.snd.snd)]]) r) (Q := Q) (ACalls.introX (mv := mv) tab_ok mixed_ (fn := Try.f35) (by kernel_rfl) rfl (by kernel_rfl) (by kernel_rfl) (Nat.le_of_ble_eq_true rfl) ?_) (fun v => by first | exact ⟨rfl, Nat.le_of_ble_eq_true rfl⟩ | (cases v <;> exact ⟨rfl, Nat.le_of_ble_eq_true rfl⟩)) k
  conv => whnf
  refine ACalls.inn (c___wire_Reader__N_p (W.bindE h) (fun v3 h => ?_)) ⟨rfl, rfl⟩
  conv => whnf
  refine ACalls.inn (c___pack_decoder__sure_p (W.bindE h) (fun v h => ?_)) ⟨rfl, rfl⟩
  rcases v with v4 | v5
  · conv => whnf
    refine ⟨_, Weak.a ?_, ?_, h⟩; (conv => whnf); exact ⟨rfl, rfl, rfl, rfl, rfl⟩; exact rfl
  · conv => whnf
    refine ⟨_, Weak.a ?_, ?_, h⟩; (conv => whnf); exact ⟨rfl, rfl, rfl, rfl, rfl⟩; exact rfl

theorem c_pack_numbers_p_2 {a0 : Int} {a1 : Int} {a2 : Int} {a3 : Int} {a4 : Int} {a5 : Int} {a6 : Int} {a7 : Int} {a8 : Int} {a9 : Int} {a10 : Int} {a11 : Int} {a12 : Int} {a13 : Int} {a14 : Int} {a15 : Int} {a16 : Int} {a17 : Int} {a18 : Int} {a19 : Int} {Q : Unit → Prop} {R : AV → List AB → Prop} (h : (g_pack_numbers_p_2 a0 a1 a2 a3 a4 a5 a6 a7 a8 a9 a10 a11 a12 a13 a14 a15 a16 a17 a18 a19).run Q) (k : ∀ r, Q r → R (.psl 1 12) ([.box 50 [.int .i64 (a0), .int .i64 (a1), .int .i64 (a2), .int .i64 (a3), .int .i64 (a4), .int .i64 (a5), .int .i64 (a6), .int .i64 (a7), .int .i64 (a8), .int .i64 (a9), .int .i64 (a10), .int .i64 (a11), .nils, .nils, .int .i64 (a12), .int .i64 (a13), .int .i64 (a14), .int .i64 (a15), .int .i64 (a16), .int .i64 (a17), .int .i64 (a18), .int .i64 (a19)], .box 60 [.ptr 0 0, .ptr 0 1, .ptr 0 2, .ptr 0 3, .ptr 0 4, .ptr 0 5, .ptr 0 6, .ptr 0 7, .ptr 0 8, .ptr 0 9, .ptr 0 10, .ptr 0 11]])) : ACalls Try.prog tab 22 [.ptr 0 0] [.box 50 [.int .i64 (a0), .int .i64 (a1), .int .i64 (a2), .int .i64 (a3), .int .i64 (a4), .int .i64 (a5), .int .i64 (a6), .int .i64 (a7), .int .i64 (a8), .int .i64 (a9), .int .i64 (a10), .int .i64 (a11), .nils, .nils, .int .i64 (a12), .int .i64 (a13), .int .i64 (a14), .int .i64 (a15), .int .i64 (a16), .int .i64 (a17), .int .i64 (a18), .int .i64 (a19)]] R := by
  refine ACalls.out (fun r => .psl 1 12) (fun r => [.box 50 [.int .i64 (a0), .int .i64 (a1), .int .i64 (a2), .int .i64 (a3), .int .i64 (a4), .int .i64 (a5), .int .i64 (a6), .int .i64 (a7), .int .i64 (a8), .int .i64 (a9), .int .i64 (a10), .int .i64 (a11), .nils, .nils, .int .i64 (a12), .int .i64 (a13), .int .i64 (a14), .int .i64 (a15), .int .i64 (a16), .int .i64 (a17), .int .i64 (a18), .int .i64 (a19)], .box 60 [.ptr 0 0, .ptr 0 1, .ptr 0 2, .ptr 0 3, .ptr 0 4, .ptr 0 5, .ptr 0 6, .ptr 0 7, .ptr 0 8, .ptr 0 9, .ptr 0 10, .ptr 0 11]]) (Q := Q) (ACalls.introX (mv := mv) tab_ok mixed_ (fn := Try.f22) (by kernel_rfl) rfl (by kernel_rfl) (by kernel_rfl) (Nat.le_of_ble_eq_true rfl) ?_) (fun v => by first | exact ⟨rfl, Nat.le_of_ble_eq_true rfl⟩ | (cases v <;> exact ⟨rfl, Nat.le_of_ble_eq_true rfl⟩)) k
  conv => whnf
  refine XDraw.d [0, 1, 2, 3, 4, 5, 6, 7, 8, 9, 10, 11, 12, 13, 14, 15, 16, 17, 18, 19, 20, 21, 22, 23, 24, 25, 26, 27, 28, 29, 30, 31, 32, 33, 34, 35, 36, 37] [[], [], [], [], [], [], [], [], [], [], [], [], [], [], [], [], [], [], [], [], [], [], [], [], [], [], [], [], [], [], [], [], [], [], [], [], [], []] (by decide +kernel) ?_
  conv => whnf
  refine ⟨_, Weak.a ?_, ?_, h⟩; (conv => whnf); exact ⟨rfl, rfl, rfl, rfl, rfl⟩; exact rfl
end Go.Proofs.Ytpoakneeceaooaa.V09
