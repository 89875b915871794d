/- The functions are their pure forms. -/
import Derived.Test.YtalchibbmkhkpaaVS
import Derived.Test.YtalchibbmkhkpaaVX2
set_option linter.unusedVariables false
set_option linter.unusedSimpArgs false
set_option linter.unusedVariables false
set_option maxRecDepth 100000
set_option maxHeartbeats 0
namespace Go.Proofs.Ytalchibbmkhkpaa.V24
open Go.Proofs Go.Proofs.Ytalchibbmkhkpaa.VX
theorem c_ref08_Copy {a0 : Int} {a1 : Int} {a2 : Int} {a3 : Int} {a4 : Int} {a5 : Bool} {a6 : Rws} {a7 : Int} {Q : Int × Int × Int × Int × Int × Int × Bool × Rws → Prop} {R : AV → List AB → Prop} (h : (g_ref08_Copy a0 a1 a2 a3 a4 a5 a6 a7).run Q) (k : ∀ r, Q r → R (.agg [.int .i64 (r.fst), .int .i64 (r.snd.fst), .int .i64 (r.snd.snd.fst), .int .i64 (r.snd.snd.snd.fst), .int .i64 (r.snd.snd.snd.snd.fst), .own 0, .int .i64 (r.snd.snd.snd.snd.snd.fst)]) ([.arr true 47 (r.snd.snd.snd.snd.snd.snd.fst) (r.snd.snd.snd.snd.snd.snd.snd)])) : ACalls Try.prog tab 8 [.agg [.int .i64 (a0), .int .i64 (a1), .int .i64 (a2), .int .i64 (a3), .int .i64 (a4), .sl (a5) 47 (a6), .int .i64 (a7)]] [] R := by
  refine ACalls.out (fun r => .agg [.int .i64 (r.fst), .int .i64 (r.snd.fst), .int .i64 (r.snd.snd.fst), .int .i64 (r.snd.snd.snd.fst), .int .i64 (r.snd.snd.snd.snd.fst), .own 0, .int .i64 (r.snd.snd.snd.snd.snd.fst)]) (fun r => [.arr true 47 (r.snd.snd.snd.snd.snd.snd.fst) (r.snd.snd.snd.snd.snd.snd.snd)]) (Q := Q) (ACalls.introX (mv := mv) tab_ok mixed_ (fn := Try.f8) (by kernel_rfl) rfl (by kernel_rfl) (by kernel_rfl) (Nat.le_of_ble_eq_true rfl) ?_) (fun v => by first | exact ⟨rfl, Nat.le_of_ble_eq_true rfl⟩ | (cases v <;> exact ⟨rfl, Nat.le_of_ble_eq_true rfl⟩)) k
  conv => whnf
  refine ASeq.go tab_ok mixed_ ?_
  conv => whnf
  refine ALoop.ofW tab_ok mixed_ (fun v2 => ⟨[(1, .ptr 0 0), (2, .ptr 1 0), (3, .own 2), (7, .sl (a5) 47 (a6)), (8, .int .i64 ((↑(List.length a6) : Int))), (9, .int .i64 (v2.fst))], [(0, .box 26 [.int .i64 (a0), .int .i64 (a1), .int .i64 (a2), .int .i64 (a3), .int .i64 (a4), .sl (a5) 47 (a6), .int .i64 (a7)]), (1, .box 26 [.int .i64 (0), .int .i64 (0), .int .i64 (0), .int .i64 (0), .int .i64 (0), .nils, .int .i64 (0)]), (2, .arr true 47 (v2.snd.fst) (v2.snd.snd))], 3, [], []⟩) (fun v3 => (.exit 0, ⟨[(1, .ptr 0 0), (2, .ptr 1 0), (3, .own 2)], [(0, .box 26 [.int .i64 (a0), .int .i64 (a1), .int .i64 (a2), .int .i64 (a3), .int .i64 (a4), .sl (a5) 47 (a6), .int .i64 (a7)]), (1, .box 26 [.int .i64 (0), .int .i64 (0), .int .i64 (0), .int .i64 (0), .int .i64 (0), .nils, .int .i64 (0)]), (2, .arr true 47 (v3.fst) (v3.snd))], 3, [], []⟩)) (W.bindE h) (Weak.a ?_) (fun v2 I Q h => ?_) (fun v3 h => ?_)
  · conv => whnf
    exact ⟨rfl, rfl, rfl, rfl, rfl⟩
  · conv => whnf
    refine ASeq.go tab_ok mixed_ ?_
    conv => whnf
    refine XSplit.mk (fun e => ?_) (fun e => ?_)
    · replace h := XSplit.t h e
      conv => whnf
      refine ASeq.go tab_ok mixed_ ?_
      conv => whnf
      refine XNeed.mk (XNeed.c h) ?_; replace h := XNeed.x h
      conv => whnf
      refine XNeed.mk (XNeed.c h) ?_; replace h := XNeed.x h
      conv => whnf
      refine XNeed.mk (XNeed.c h) ?_; replace h := XNeed.x h
      conv => whnf
      refine XNeed.mk (XNeed.c h) ?_; replace h := XNeed.x h
      conv => whnf
      refine ⟨_, Weak.a ?_, h⟩; (conv => whnf); exact ⟨rfl, rfl, rfl, rfl, rfl⟩
    · replace h := XSplit.f h e
      conv => whnf
      refine ⟨_, ?_, Weak.a ?_, h⟩; exact rfl; (conv => whnf); exact ⟨rfl, rfl, rfl, rfl, rfl⟩
  · conv => whnf
    refine ⟨_, Weak.a ?_, ?_, h⟩; (conv => whnf); exact ⟨rfl, rfl, rfl, rfl, rfl⟩; exact rfl

theorem c_shape_Elems {a0 : Int} {a1 : Int} {a2 : Int} {Q : Int × Int → Prop} {R : AV → List AB → Prop} (h : (g_shape_Elems a0 a1 a2).run Q) (k : ∀ r, Q r → R (.tup [.int .i64 (r.fst), .int .i64 (r.snd)]) ([])) : ACalls Try.prog tab 35 [.agg [.int .i64 (a0), .int .i64 (a1), .int .i64 (a2)]] [] R := by
  refine ACalls.out (fun r => .tup [.int .i64 (r.fst), .int .i64 (r.snd)]) (fun r => []) (Q := Q) (ACalls.introX (mv := mv) tab_ok mixed_ (fn := Try.f35) (by kernel_rfl) rfl (by kernel_rfl) (by kernel_rfl) (Nat.le_of_ble_eq_true rfl) ?_) (fun v => by first | exact ⟨rfl, Nat.le_of_ble_eq_true rfl⟩ | (cases v <;> exact ⟨rfl, Nat.le_of_ble_eq_true rfl⟩)) k
  conv => whnf
  refine ASeq.go tab_ok mixed_ ?_
  conv => whnf
  refine ALoop.unroll tab_ok mixed_ (kn := fun st => ALoop Try.prog tab _ _ _ _ st _) (fun _ h => h) ?_
  conv => whnf
  refine ASeq.go tab_ok mixed_ ?_
  conv => whnf
  refine XSplit.tt rfl ?_
  conv => whnf
  refine ASeq.go tab_ok mixed_ ?_
  conv => whnf
  refine XNeed.mk (of_decide_eq_true rfl) ?_
  conv => whnf
  refine ASeq.go tab_ok mixed_ ?_
  conv => whnf
  refine XSplit.mk (fun e => ?_) (fun e => ?_)
  · replace h := XSplit.t h e
    conv => whnf
    refine ⟨_, Weak.a ?_, ?_, h⟩; (conv => whnf); exact ⟨rfl, rfl, rfl, rfl, rfl⟩; exact rfl
  · replace h := XSplit.f h e
    conv => whnf
    refine ALoop.unroll tab_ok mixed_ (kn := fun st => ALoop Try.prog tab _ _ _ _ st _) (fun _ h => h) ?_
    conv => whnf
    refine ASeq.go tab_ok mixed_ ?_
    conv => whnf
    refine XSplit.tt rfl ?_
    conv => whnf
    refine ASeq.go tab_ok mixed_ ?_
    conv => whnf
    refine XNeed.mk (of_decide_eq_true rfl) ?_
    conv => whnf
    refine ASeq.go tab_ok mixed_ ?_
    conv => whnf
    refine XSplit.mk (fun e => ?_) (fun e => ?_)
    · replace h := XSplit.t h e
      conv => whnf
      refine ⟨_, Weak.a ?_, ?_, h⟩; (conv => whnf); exact ⟨rfl, rfl, rfl, rfl, rfl⟩; exact rfl
    · replace h := XSplit.f h e
      conv => whnf
      refine ALoop.unroll tab_ok mixed_ (kn := fun st => ALoop Try.prog tab _ _ _ _ st _) (fun _ h => h) ?_
      conv => whnf
      refine ASeq.go tab_ok mixed_ ?_
      conv => whnf
      refine XSplit.tt rfl ?_
      conv => whnf
      refine ASeq.go tab_ok mixed_ ?_
      conv => whnf
      refine XNeed.mk (of_decide_eq_true rfl) ?_
      conv => whnf
      refine ASeq.go tab_ok mixed_ ?_
      conv => whnf
      refine XSplit.mk (fun e => ?_) (fun e => ?_)
      · replace h := XSplit.t h e
        conv => whnf
        refine ⟨_, Weak.a ?_, ?_, h⟩; (conv => whnf); exact ⟨rfl, rfl, rfl, rfl, rfl⟩; exact rfl
      · replace h := XSplit.f h e
        conv => whnf
        refine ALoop.unroll tab_ok mixed_ (kn := fun st => ALoop Try.prog tab _ _ _ _ st _) (fun _ h => h) ?_
        conv => whnf
        refine ASeq.go tab_ok mixed_ ?_
        conv => whnf
        refine XSplit.ff rfl ?_
        conv => whnf
        refine ASeq.go tab_ok mixed_ ?_
        conv => whnf
        refine XSplit.mk (fun e => ?_) (fun e => ?_)
        · replace h := XSplit.t h e
          conv => whnf
          refine ⟨_, Weak.a ?_, ?_, h⟩; (conv => whnf); exact ⟨rfl, rfl, rfl, rfl, rfl⟩; exact rfl
        · replace h := XSplit.f h e
          conv => whnf
          refine ⟨_, Weak.a ?_, ?_, h⟩; (conv => whnf); exact ⟨rfl, rfl, rfl, rfl, rfl⟩; exact rfl

theorem c_model_byte8 {a0 : Bool} {a1 : Rws} {Q : Bool → Prop} {R : AV → List AB → Prop} (h : (g_model_byte8 a0 a1).run Q) (k : ∀ r, Q r → R (.bool (r)) ([])) : ACalls Try.prog tab 36 [.sl (a0) 3 (a1)] [] R := by
  refine ACalls.out (fun r => .bool (r)) (fun r => []) (Q := Q) (ACalls.introX (mv := mv) tab_ok mixed_ (fn := Try.f36) (by kernel_rfl) rfl (by kernel_rfl) (by kernel_rfl) (Nat.le_of_ble_eq_true rfl) ?_) (fun v => by first | exact ⟨rfl, Nat.le_of_ble_eq_true rfl⟩ | (cases v <;> exact ⟨rfl, Nat.le_of_ble_eq_true rfl⟩)) k
  conv => whnf
  refine ASeq.go tab_ok mixed_ ?_
  conv => whnf
  refine ALoop.ofW tab_ok mixed_ (fun v3 => ⟨[(2, .kb false), (5, .sl (a0) 3 (a1)), (6, .int .i64 ((↑(List.length a1) : Int))), (7, .int .i64 (v3))], [], 0, [], []⟩) (sx (fun v4 => (.ret, ⟨[(2, .kb false)], [], 0, [], []⟩)) (fun v5 => (.exit 0, ⟨[(2, .kb false)], [], 0, [], []⟩))) (W.bindE h) (Weak.a ?_) (fun v3 I Q h => ?_) (fun v h => ?_)
  · conv => whnf
    exact ⟨rfl, rfl, rfl, rfl, rfl⟩
  · conv => whnf
    refine ASeq.go tab_ok mixed_ ?_
    conv => whnf
    refine XSplit.mk (fun e => ?_) (fun e => ?_)
    · replace h := XSplit.t h e
      conv => whnf
      refine ASeq.go tab_ok mixed_ ?_
      conv => whnf
      refine XNeed.mk (XNeed.c h) ?_; replace h := XNeed.x h
      conv => whnf
      refine XSplit.mk (fun e => ?_) (fun e => ?_)
      · replace h := XSplit.t h e
        conv => whnf
        refine ⟨_, ?_, Weak.a ?_, h⟩; exact rfl; (conv => whnf); exact ⟨rfl, rfl, rfl, rfl, rfl⟩
      · replace h := XSplit.f h e
        conv => whnf
        refine ⟨_, Weak.a ?_, h⟩; (conv => whnf); exact ⟨rfl, rfl, rfl, rfl, rfl⟩
    · replace h := XSplit.f h e
      conv => whnf
      refine ⟨_, ?_, Weak.a ?_, h⟩; exact rfl; (conv => whnf); exact ⟨rfl, rfl, rfl, rfl, rfl⟩
  · rcases v with v4 | v5
    · conv => whnf
      refine ⟨_, Weak.a ?_, ?_, h⟩; (conv => whnf); exact ⟨rfl, rfl, rfl, rfl, rfl⟩; exact rfl
    · conv => whnf
      refine ⟨_, Weak.a ?_, ?_, h⟩; (conv => whnf); exact ⟨rfl, rfl, rfl, rfl, rfl⟩; exact rfl

theorem c_model_of {a0 : Int} {Q : Bool × Bool × Bool × Bool × Bool × Bool × Bool × Bool × Bool → Prop} {R : AV → List AB → Prop} (h : (g_model_of a0).run Q) (k : ∀ r, Q r → R (.tup [.agg [.bool (r.fst), .bool (r.snd.fst), .bool (r.snd.snd.fst), .bool (r.snd.snd.snd.fst), .bool (r.snd.snd.snd.snd.fst), .bool (r.snd.snd.snd.snd.snd.fst), .bool (r.snd.snd.snd.snd.snd.snd.fst), .bool (r.snd.snd.snd.snd.snd.snd.snd.fst)], .bool (r.snd.snd.snd.snd.snd.snd.snd.snd)]) ([])) : ACalls Try.prog tab 58 [.int .i64 (a0)] [] R := by
  refine ACalls.out (fun r => .tup [.agg [.bool (r.fst), .bool (r.snd.fst), .bool (r.snd.snd.fst), .bool (r.snd.snd.snd.fst), .bool (r.snd.snd.snd.snd.fst), .bool (r.snd.snd.snd.snd.snd.fst), .bool (r.snd.snd.snd.snd.snd.snd.fst), .bool (r.snd.snd.snd.snd.snd.snd.snd.fst)], .bool (r.snd.snd.snd.snd.snd.snd.snd.snd)]) (fun r => []) (Q := Q) (ACalls.introX (mv := mv) tab_ok mixed_ (fn := Try.f58) (by kernel_rfl) rfl (by kernel_rfl) (by kernel_rfl) (Nat.le_of_ble_eq_true rfl) ?_) (fun v => by first | exact ⟨rfl, Nat.le_of_ble_eq_true rfl⟩ | (cases v <;> exact ⟨rfl, Nat.le_of_ble_eq_true rfl⟩)) k
  conv => whnf
  refine ASeq.go tab_ok mixed_ ?_
  conv => whnf
  refine XSplit.mk (fun e => ?_) (fun e => ?_)
  · replace h := XSplit.t h e
    conv => whnf
    refine ⟨_, Weak.a ?_, ?_, h⟩; (conv => whnf); exact ⟨rfl, rfl, rfl, rfl, rfl⟩; exact rfl
  · replace h := XSplit.f h e
    conv => whnf
    refine XSplit.mk (fun e => ?_) (fun e => ?_)
    · replace h := XSplit.t h e
      conv => whnf
      refine ⟨_, Weak.a ?_, ?_, h⟩; (conv => whnf); exact ⟨rfl, rfl, rfl, rfl, rfl⟩; exact rfl
    · replace h := XSplit.f h e
      conv => whnf
      refine XSplit.mk (fun e => ?_) (fun e => ?_)
      · replace h := XSplit.t h e
        conv => whnf
        refine ⟨_, Weak.a ?_, ?_, h⟩; (conv => whnf); exact ⟨rfl, rfl, rfl, rfl, rfl⟩; exact rfl
      · replace h := XSplit.f h e
        conv => whnf
        refine ASeq.joinW tab_ok mixed_ (fun v1 => ⟨[(2, .ptr 0 0), (3, .kb false), (4, .int .i64 (a0)), (14, .bool (v1))], [(0, .box 121 [.kb false, .kb false, .kb false, .kb false, .kb false, .kb false, .kb false, .kb false])], 1, [], []⟩) h (fun Q h => ?_) (fun v1 h => ?_)
        · conv => whnf
          refine XSplit.mk (fun e => ?_) (fun e => ?_)
          · replace h := XSplit.t h e
            conv => whnf
            refine ⟨_, Weak.a ?_, h⟩; (conv => whnf); exact ⟨rfl, rfl, rfl, rfl, rfl⟩
          · replace h := XSplit.f h e
            conv => whnf
            refine ⟨_, Weak.a ?_, h⟩; (conv => whnf); exact ⟨rfl, rfl, rfl, rfl, rfl⟩
        · conv => whnf
          refine XSplit.mk (fun e => ?_) (fun e => ?_)
          · replace h := XSplit.t h e
            conv => whnf
            refine ⟨_, Weak.a ?_, ?_, h⟩; (conv => whnf); exact ⟨rfl, rfl, rfl, rfl, rfl⟩; exact rfl
          · replace h := XSplit.f h e
            conv => whnf
            refine XSplit.mk (fun e => ?_) (fun e => ?_)
            · replace h := XSplit.t h e
              conv => whnf
              refine ⟨_, Weak.a ?_, ?_, h⟩; (conv => whnf); exact ⟨rfl, rfl, rfl, rfl, rfl⟩; exact rfl
            · replace h := XSplit.f h e
              conv => whnf
              refine XSplit.mk (fun e => ?_) (fun e => ?_)
              · replace h := XSplit.t h e
                conv => whnf
                refine ⟨_, Weak.a ?_, ?_, h⟩; (conv => whnf); exact ⟨rfl, rfl, rfl, rfl, rfl⟩; exact rfl
              · replace h := XSplit.f h e
                conv => whnf
                refine XSplit.mk (fun e => ?_) (fun e => ?_)
                · replace h := XSplit.t h e
                  conv => whnf
                  refine ⟨_, Weak.a ?_, ?_, h⟩; (conv => whnf); exact ⟨rfl, rfl, rfl, rfl, rfl⟩; exact rfl
                · replace h := XSplit.f h e
                  conv => whnf
                  refine ⟨_, Weak.a ?_, ?_, h⟩; (conv => whnf); exact ⟨rfl, rfl, rfl, rfl, rfl⟩; exact rfl

theorem c_model_bare {a0 : Int} {a1 : Int} {a2 : Int} {a3 : Int} {a4 : Int} {a5 : Int} {a6 : Int} {a7 : Int} {a8 : Int} {a9 : Int} {a10 : Int} {a11 : Int} {a12 : Bool} {a13 : Rws} {a14 : Bool} {a15 : Rws} {a16 : Int} {a17 : Int} {a18 : Int} {a19 : Int} {a20 : Int} {a21 : Int} {a22 : Int} {a23 : Int} {a24 : Bool} {a25 : Bool} {a26 : Bool} {a27 : Bool} {a28 : Bool} {a29 : Bool} {a30 : Bool} {a31 : Bool} {Q : Int × Int × Int × Int × Int × Int × Int × Int × Int × Int × Int × Int × Bool × Rws × Bool × Rws × Int × Int × Int × Int × Int × Int × Int × Int → Prop} {R : AV → List AB → Prop} (h : (g_model_bare a0 a1 a2 a3 a4 a5 a6 a7 a8 a9 a10 a11 a12 a13 a14 a15 a16 a17 a18 a19 a20 a21 a22 a23 a24 a25 a26 a27 a28 a29 a30 a31).run Q) (k : ∀ r, Q r → R (.agg [.int .i64 (r.fst), .int .i64 (r.snd.fst), .int .i64 (r.snd.snd.fst), .int .i64 (r.snd.snd.snd.fst), .int .i64 (r.snd.snd.snd.snd.fst), .int .i64 (r.snd.snd.snd.snd.snd.fst), .int .i64 (r.snd.snd.snd.snd.snd.snd.fst), .int .i64 (r.snd.snd.snd.snd.snd.snd.snd.fst), .int .i64 (r.snd.snd.snd.snd.snd.snd.snd.snd.fst), .int .i64 (r.snd.snd.snd.snd.snd.snd.snd.snd.snd.fst), .int .i64 (r.snd.snd.snd.snd.snd.snd.snd.snd.snd.snd.fst), .int .i64 (r.snd.snd.snd.snd.snd.snd.snd.snd.snd.snd.snd.fst), .sl (r.snd.snd.snd.snd.snd.snd.snd.snd.snd.snd.snd.snd.fst) 48 (r.snd.snd.snd.snd.snd.snd.snd.snd.snd.snd.snd.snd.snd.fst), .sl (r.snd.snd.snd.snd.snd.snd.snd.snd.snd.snd.snd.snd.snd.snd.fst) 21 (r.snd.snd.snd.snd.snd.snd.snd.snd.snd.snd.snd.snd.snd.snd.snd.fst), .int .i64 (r.snd.snd.snd.snd.snd.snd.snd.snd.snd.snd.snd.snd.snd.snd.snd.snd.fst), .int .i64 (r.snd.snd.snd.snd.snd.snd.snd.snd.snd.snd.snd.snd.snd.snd.snd.snd.snd.fst), .int .i64 (r.snd.snd.snd.snd.snd.snd.snd.snd.snd.snd.snd.snd.snd.snd.snd.snd.snd.snd.fst), .int .i64 (r.snd.snd.snd.snd.snd.snd.snd.snd.snd.snd.snd.snd.snd.snd.snd.snd.snd.snd.snd.fst), .int .i64 (r.snd.snd.snd.snd.snd.snd.snd.snd.snd.snd.snd.snd.snd.snd.snd.snd.snd.snd.snd.snd.fst), .int .i64 (r.snd.snd.snd.snd.snd.snd.snd.snd.snd.snd.snd.snd.snd.snd.snd.snd.snd.snd.snd.snd.snd.fst), .int .i64 (r.snd.snd.snd.snd.snd.snd.snd.snd.snd.snd.snd.snd.snd.snd.snd.snd.snd.snd.snd.snd.snd.snd.fst), .int .i64 (r.snd.snd.snd.snd.snd.snd.snd.snd.snd.snd.snd.snd.snd.snd.snd.snd.snd.snd.snd.snd.snd.snd.snd)]) ([])) : ACalls Try.prog tab 60 [.agg [.int .i64 (a0), .int .i64 (a1), .int .i64 (a2), .int .i64 (a3), .int .i64 (a4), .int .i64 (a5), .int .i64 (a6), .int .i64 (a7), .int .i64 (a8), .int .i64 (a9), .int .i64 (a10), .int .i64 (a11), .sl (a12) 48 (a13), .sl (a14) 21 (a15), .int .i64 (a16), .int .i64 (a17), .int .i64 (a18), .int .i64 (a19), .int .i64 (a20), .int .i64 (a21), .int .i64 (a22), .int .i64 (a23)], .agg [.bool (a24), .bool (a25), .bool (a26), .bool (a27), .bool (a28), .bool (a29), .bool (a30), .bool (a31)]] [] R := by
  refine ACalls.out (fun r => .agg [.int .i64 (r.fst), .int .i64 (r.snd.fst), .int .i64 (r.snd.snd.fst), .int .i64 (r.snd.snd.snd.fst), .int .i64 (r.snd.snd.snd.snd.fst), .int .i64 (r.snd.snd.snd.snd.snd.fst), .int .i64 (r.snd.snd.snd.snd.snd.snd.fst), .int .i64 (r.snd.snd.snd.snd.snd.snd.snd.fst), .int .i64 (r.snd.snd.snd.snd.snd.snd.snd.snd.fst), .int .i64 (r.snd.snd.snd.snd.snd.snd.snd.snd.snd.fst), .int .i64 (r.snd.snd.snd.snd.snd.snd.snd.snd.snd.snd.fst), .int .i64 (r.snd.snd.snd.snd.snd.snd.snd.snd.snd.snd.snd.fst), .sl (r.snd.snd.snd.snd.snd.snd.snd.snd.snd.snd.snd.snd.fst) 48 (r.snd.snd.snd.snd.snd.snd.snd.snd.snd.snd.snd.snd.snd.fst), .sl (r.snd.snd.snd.snd.snd.snd.snd.snd.snd.snd.snd.snd.snd.snd.fst) 21 (r.snd.snd.snd.snd.snd.snd.snd.snd.snd.snd.snd.snd.snd.snd.snd.fst), .int .i64 (r.snd.snd.snd.snd.snd.snd.snd.snd.snd.snd.snd.snd.snd.snd.snd.snd.fst), .int .i64 (r.snd.snd.snd.snd.snd.snd.snd.snd.snd.snd.snd.snd.snd.snd.snd.snd.snd.fst), .int .i64 (r.snd.snd.snd.snd.snd.snd.snd.snd.snd.snd.snd.snd.snd.snd.snd.snd.snd.snd.fst), .int .i64 (r.snd.snd.snd.snd.snd.snd.snd.snd.snd.snd.snd.snd.snd.snd.snd.snd.snd.snd.snd.fst), .int .i64 (r.snd.snd.snd.snd.snd.snd.snd.snd.snd.snd.snd.snd.snd.snd.snd.snd.snd.snd.snd.snd.fst), .int .i64 (r.snd.snd.snd.snd.snd.snd.snd.snd.snd.snd.snd.snd.snd.snd.snd.snd.snd.snd.snd.snd.snd.fst), .int .i64 (r.snd.snd.snd.snd.snd.snd.snd.snd.snd.snd.snd.snd.snd.snd.snd.snd.snd.snd.snd.snd.snd.snd.fst), .int .i64 (r.snd.snd.snd.snd.snd.snd.snd.snd.snd.snd.snd.snd.snd.snd.snd.snd.snd.snd.snd.snd.snd.snd.snd)]) (fun r => []) (Q := Q) (ACalls.introX (mv := mv) tab_ok mixed_ (fn := Try.f60) (by kernel_rfl) rfl (by kernel_rfl) (by kernel_rfl) (Nat.le_of_ble_eq_true rfl) ?_) (fun v => by first | exact ⟨rfl, Nat.le_of_ble_eq_true rfl⟩ | (cases v <;> exact ⟨rfl, Nat.le_of_ble_eq_true rfl⟩)) k
  conv => whnf
  refine ASeq.joinW tab_ok mixed_ (fun v8 => ⟨[(2, .ptr 0 0), (3, .ptr 1 0), (4, .ptr 2 0)], [(0, .box 47 [.int .i64 (0), .int .i64 (0), .int .i64 (v8), .int .i64 (a3), .int .i64 (a4), .int .i64 (a5), .int .i64 (a6), .int .i64 (a7), .int .i64 (a8), .int .i64 (a9), .int .i64 (a10), .int .i64 (a11), .sl (a12) 48 (a13), .sl (a14) 21 (a15), .int .i64 (a16), .int .i64 (a17), .int .i64 (a18), .int .i64 (a19), .int .i64 (a20), .int .i64 (a21), .int .i64 (0), .int .i64 (0)]), (1, .box 121 [.bool (a24), .bool (a25), .bool (a26), .bool (a27), .bool (a28), .bool (a29), .bool (a30), .bool (a31)]), (2, .box 47 [.int .i64 (0), .int .i64 (0), .int .i64 (0), .int .i64 (0), .int .i64 (0), .int .i64 (0), .int .i64 (0), .int .i64 (0), .int .i64 (0), .int .i64 (0), .int .i64 (0), .int .i64 (0), .nils, .nils, .int .i64 (0), .int .i64 (0), .int .i64 (0), .int .i64 (0), .int .i64 (0), .int .i64 (0), .int .i64 (0), .int .i64 (0)])], 3, [], []⟩) h (fun Q h => ?_) (fun v8 h => ?_)
  · conv => whnf
    refine XSplit.mk (fun e => ?_) (fun e => ?_)
    · replace h := XSplit.t h e
      conv => whnf
      refine ⟨_, Weak.a ?_, h⟩; (conv => whnf); exact ⟨rfl, rfl, rfl, rfl, rfl⟩
    · replace h := XSplit.f h e
      conv => whnf
      refine ⟨_, Weak.a ?_, h⟩; (conv => whnf); exact ⟨rfl, rfl, rfl, rfl, rfl⟩
  · conv => whnf
    refine ASeq.joinW tab_ok mixed_ (fun v9 => ⟨[(2, .ptr 0 0), (3, .ptr 1 0), (4, .ptr 2 0)], [(0, .box 47 [.int .i64 (0), .int .i64 (0), .int .i64 (v8), .int .i64 (v9), .int .i64 (a4), .int .i64 (a5), .int .i64 (a6), .int .i64 (a7), .int .i64 (a8), .int .i64 (a9), .int .i64 (a10), .int .i64 (a11), .sl (a12) 48 (a13), .sl (a14) 21 (a15), .int .i64 (a16), .int .i64 (a17), .int .i64 (a18), .int .i64 (a19), .int .i64 (a20), .int .i64 (a21), .int .i64 (0), .int .i64 (0)]), (1, .box 121 [.bool (a24), .bool (a25), .bool (a26), .bool (a27), .bool (a28), .bool (a29), .bool (a30), .bool (a31)]), (2, .box 47 [.int .i64 (0), .int .i64 (0), .int .i64 (0), .int .i64 (0), .int .i64 (0), .int .i64 (0), .int .i64 (0), .int .i64 (0), .int .i64 (0), .int .i64 (0), .int .i64 (0), .int .i64 (0), .nils, .nils, .int .i64 (0), .int .i64 (0), .int .i64 (0), .int .i64 (0), .int .i64 (0), .int .i64 (0), .int .i64 (0), .int .i64 (0)])], 3, [], []⟩) h (fun Q h => ?_) (fun v9 h => ?_)
    · conv => whnf
      refine XSplit.mk (fun e => ?_) (fun e => ?_)
      · replace h := XSplit.t h e
        conv => whnf
        refine ⟨_, Weak.a ?_, h⟩; (conv => whnf); exact ⟨rfl, rfl, rfl, rfl, rfl⟩
      · replace h := XSplit.f h e
        conv => whnf
        refine ⟨_, Weak.a ?_, h⟩; (conv => whnf); exact ⟨rfl, rfl, rfl, rfl, rfl⟩
    · conv => whnf
      refine ASeq.joinW tab_ok mixed_ (fun v10 => ⟨[(2, .ptr 0 0), (3, .ptr 1 0), (4, .ptr 2 0)], [(0, .box 47 [.int .i64 (0), .int .i64 (0), .int .i64 (v8), .int .i64 (v9), .int .i64 (v10.fst), .int .i64 (v10.snd.fst), .int .i64 (v10.snd.snd.fst), .int .i64 (v10.snd.snd.snd), .int .i64 (a8), .int .i64 (a9), .int .i64 (a10), .int .i64 (a11), .sl (a12) 48 (a13), .sl (a14) 21 (a15), .int .i64 (a16), .int .i64 (a17), .int .i64 (a18), .int .i64 (a19), .int .i64 (a20), .int .i64 (a21), .int .i64 (0), .int .i64 (0)]), (1, .box 121 [.bool (a24), .bool (a25), .bool (a26), .bool (a27), .bool (a28), .bool (a29), .bool (a30), .bool (a31)]), (2, .box 47 [.int .i64 (0), .int .i64 (0), .int .i64 (0), .int .i64 (0), .int .i64 (0), .int .i64 (0), .int .i64 (0), .int .i64 (0), .int .i64 (0), .int .i64 (0), .int .i64 (0), .int .i64 (0), .nils, .nils, .int .i64 (0), .int .i64 (0), .int .i64 (0), .int .i64 (0), .int .i64 (0), .int .i64 (0), .int .i64 (0), .int .i64 (0)])], 3, [], []⟩) h (fun Q h => ?_) (fun v10 h => ?_)
      · conv => whnf
        refine XSplit.mk (fun e => ?_) (fun e => ?_)
        · replace h := XSplit.t h e
          conv => whnf
          refine ⟨_, Weak.a ?_, h⟩; (conv => whnf); exact ⟨rfl, rfl, rfl, rfl, rfl⟩
        · replace h := XSplit.f h e
          conv => whnf
          refine ⟨_, Weak.a ?_, h⟩; (conv => whnf); exact ⟨rfl, rfl, rfl, rfl, rfl⟩
      · conv => whnf
        refine ASeq.joinW tab_ok mixed_ (fun v11 => ⟨[(2, .ptr 0 0), (3, .ptr 1 0), (4, .ptr 2 0)], [(0, .box 47 [.int .i64 (0), .int .i64 (0), .int .i64 (v8), .int .i64 (v9), .int .i64 (v11.fst), .int .i64 (v11.snd.fst), .int .i64 (v11.snd.snd.fst), .int .i64 (v11.snd.snd.snd.fst), .int .i64 (v11.snd.snd.snd.snd.fst), .int .i64 (v11.snd.snd.snd.snd.snd.fst), .int .i64 (v11.snd.snd.snd.snd.snd.snd.fst), .int .i64 (v11.snd.snd.snd.snd.snd.snd.snd), .sl (a12) 48 (a13), .sl (a14) 21 (a15), .int .i64 (a16), .int .i64 (a17), .int .i64 (a18), .int .i64 (a19), .int .i64 (a20), .int .i64 (a21), .int .i64 (0), .int .i64 (0)]), (1, .box 121 [.bool (a24), .bool (a25), .bool (a26), .bool (a27), .bool (a28), .bool (a29), .bool (a30), .bool (a31)]), (2, .box 47 [.int .i64 (0), .int .i64 (0), .int .i64 (0), .int .i64 (0), .int .i64 (0), .int .i64 (0), .int .i64 (0), .int .i64 (0), .int .i64 (0), .int .i64 (0), .int .i64 (0), .int .i64 (0), .nils, .nils, .int .i64 (0), .int .i64 (0), .int .i64 (0), .int .i64 (0), .int .i64 (0), .int .i64 (0), .int .i64 (0), .int .i64 (0)])], 3, [], []⟩) h (fun Q h => ?_) (fun v11 h => ?_)
        · conv => whnf
          refine XSplit.mk (fun e => ?_) (fun e => ?_)
          · replace h := XSplit.t h e
            conv => whnf
            refine ⟨_, Weak.a ?_, h⟩; (conv => whnf); exact ⟨rfl, rfl, rfl, rfl, rfl⟩
          · replace h := XSplit.f h e
            conv => whnf
            refine ⟨_, Weak.a ?_, h⟩; (conv => whnf); exact ⟨rfl, rfl, rfl, rfl, rfl⟩
        · conv => whnf
          refine ASeq.joinW tab_ok mixed_ (fun v12 => ⟨[(2, .ptr 0 0), (3, .ptr 1 0), (4, .ptr 2 0)], [(0, .box 47 [.int .i64 (0), .int .i64 (0), .int .i64 (v8), .int .i64 (v9), .int .i64 (v11.fst), .int .i64 (v11.snd.fst), .int .i64 (v11.snd.snd.fst), .int .i64 (v11.snd.snd.snd.fst), .int .i64 (v11.snd.snd.snd.snd.fst), .int .i64 (v11.snd.snd.snd.snd.snd.fst), .int .i64 (v11.snd.snd.snd.snd.snd.snd.fst), .int .i64 (v11.snd.snd.snd.snd.snd.snd.snd), .sl (v12.fst) 48 (v12.snd.fst), .sl (v12.snd.snd.fst) 21 (v12.snd.snd.snd), .int .i64 (a16), .int .i64 (a17), .int .i64 (a18), .int .i64 (a19), .int .i64 (a20), .int .i64 (a21), .int .i64 (0), .int .i64 (0)]), (1, .box 121 [.bool (a24), .bool (a25), .bool (a26), .bool (a27), .bool (a28), .bool (a29), .bool (a30), .bool (a31)]), (2, .box 47 [.int .i64 (0), .int .i64 (0), .int .i64 (0), .int .i64 (0), .int .i64 (0), .int .i64 (0), .int .i64 (0), .int .i64 (0), .int .i64 (0), .int .i64 (0), .int .i64 (0), .int .i64 (0), .nils, .nils, .int .i64 (0), .int .i64 (0), .int .i64 (0), .int .i64 (0), .int .i64 (0), .int .i64 (0), .int .i64 (0), .int .i64 (0)])], 3, [], []⟩) h (fun Q h => ?_) (fun v12 h => ?_)
          · conv => whnf
            refine XSplit.mk (fun e => ?_) (fun e => ?_)
            · replace h := XSplit.t h e
              conv => whnf
              refine ⟨_, Weak.a ?_, h⟩; (conv => whnf); exact ⟨rfl, rfl, rfl, rfl, rfl⟩
            · replace h := XSplit.f h e
              conv => whnf
              refine ⟨_, Weak.a ?_, h⟩; (conv => whnf); exact ⟨rfl, rfl, rfl, rfl, rfl⟩
          · conv => whnf
            refine ASeq.joinW tab_ok mixed_ (fun v13 => ⟨[(2, .ptr 0 0), (3, .ptr 1 0), (4, .ptr 2 0)], [(0, .box 47 [.int .i64 (0), .int .i64 (0), .int .i64 (v8), .int .i64 (v9), .int .i64 (v11.fst), .int .i64 (v11.snd.fst), .int .i64 (v11.snd.snd.fst), .int .i64 (v11.snd.snd.snd.fst), .int .i64 (v11.snd.snd.snd.snd.fst), .int .i64 (v11.snd.snd.snd.snd.snd.fst), .int .i64 (v11.snd.snd.snd.snd.snd.snd.fst), .int .i64 (v11.snd.snd.snd.snd.snd.snd.snd), .sl (v12.fst) 48 (v12.snd.fst), .sl (v12.snd.snd.fst) 21 (v12.snd.snd.snd), .int .i64 (v13.fst), .int .i64 (v13.snd.fst), .int .i64 (a18), .int .i64 (a19), .int .i64 (v13.snd.snd), .int .i64 (a21), .int .i64 (0), .int .i64 (0)]), (1, .box 121 [.bool (a24), .bool (a25), .bool (a26), .bool (a27), .bool (a28), .bool (a29), .bool (a30), .bool (a31)]), (2, .box 47 [.int .i64 (0), .int .i64 (0), .int .i64 (0), .int .i64 (0), .int .i64 (0), .int .i64 (0), .int .i64 (0), .int .i64 (0), .int .i64 (0), .int .i64 (0), .int .i64 (0), .int .i64 (0), .nils, .nils, .int .i64 (0), .int .i64 (0), .int .i64 (0), .int .i64 (0), .int .i64 (0), .int .i64 (0), .int .i64 (0), .int .i64 (0)])], 3, [], []⟩) h (fun Q h => ?_) (fun v13 h => ?_)
            · conv => whnf
              refine XSplit.mk (fun e => ?_) (fun e => ?_)
              · replace h := XSplit.t h e
                conv => whnf
                refine ⟨_, Weak.a ?_, h⟩; (conv => whnf); exact ⟨rfl, rfl, rfl, rfl, rfl⟩
              · replace h := XSplit.f h e
                conv => whnf
                refine ⟨_, Weak.a ?_, h⟩; (conv => whnf); exact ⟨rfl, rfl, rfl, rfl, rfl⟩
            · conv => whnf
              refine ASeq.joinW tab_ok mixed_ (fun v14 => ⟨[(2, .ptr 0 0), (3, .ptr 1 0), (4, .ptr 2 0)], [(0, .box 47 [.int .i64 (0), .int .i64 (0), .int .i64 (v8), .int .i64 (v9), .int .i64 (v11.fst), .int .i64 (v11.snd.fst), .int .i64 (v11.snd.snd.fst), .int .i64 (v11.snd.snd.snd.fst), .int .i64 (v11.snd.snd.snd.snd.fst), .int .i64 (v11.snd.snd.snd.snd.snd.fst), .int .i64 (v11.snd.snd.snd.snd.snd.snd.fst), .int .i64 (v11.snd.snd.snd.snd.snd.snd.snd), .sl (v12.fst) 48 (v12.snd.fst), .sl (v12.snd.snd.fst) 21 (v12.snd.snd.snd), .int .i64 (v13.fst), .int .i64 (v13.snd.fst), .int .i64 (v14.fst), .int .i64 (v14.snd), .int .i64 (v13.snd.snd), .int .i64 (a21), .int .i64 (0), .int .i64 (0)]), (1, .box 121 [.bool (a24), .bool (a25), .bool (a26), .bool (a27), .bool (a28), .bool (a29), .bool (a30), .bool (a31)]), (2, .box 47 [.int .i64 (0), .int .i64 (0), .int .i64 (0), .int .i64 (0), .int .i64 (0), .int .i64 (0), .int .i64 (0), .int .i64 (0), .int .i64 (0), .int .i64 (0), .int .i64 (0), .int .i64 (0), .nils, .nils, .int .i64 (0), .int .i64 (0), .int .i64 (0), .int .i64 (0), .int .i64 (0), .int .i64 (0), .int .i64 (0), .int .i64 (0)])], 3, [], []⟩) h (fun Q h => ?_) (fun v14 h => ?_)
              · conv => whnf
                refine XSplit.mk (fun e => ?_) (fun e => ?_)
                · replace h := XSplit.t h e
                  conv => whnf
                  refine ⟨_, Weak.a ?_, h⟩; (conv => whnf); exact ⟨rfl, rfl, rfl, rfl, rfl⟩
                · replace h := XSplit.f h e
                  conv => whnf
                  refine ⟨_, Weak.a ?_, h⟩; (conv => whnf); exact ⟨rfl, rfl, rfl, rfl, rfl⟩
              · conv => whnf
                refine ASeq.joinW tab_ok mixed_ (fun v15 => ⟨[(2, .ptr 0 0), (4, .ptr 1 0)], [(0, .box 47 [.int .i64 (0), .int .i64 (0), .int .i64 (v8), .int .i64 (v9), .int .i64 (v11.fst), .int .i64 (v11.snd.fst), .int .i64 (v11.snd.snd.fst), .int .i64 (v11.snd.snd.snd.fst), .int .i64 (v11.snd.snd.snd.snd.fst), .int .i64 (v11.snd.snd.snd.snd.snd.fst), .int .i64 (v11.snd.snd.snd.snd.snd.snd.fst), .int .i64 (v11.snd.snd.snd.snd.snd.snd.snd), .sl (v12.fst) 48 (v12.snd.fst), .sl (v12.snd.snd.fst) 21 (v12.snd.snd.snd), .int .i64 (v13.fst), .int .i64 (v13.snd.fst), .int .i64 (v14.fst), .int .i64 (v14.snd), .int .i64 (v13.snd.snd), .int .i64 (v15), .int .i64 (0), .int .i64 (0)]), (1, .box 47 [.int .i64 (0), .int .i64 (0), .int .i64 (0), .int .i64 (0), .int .i64 (0), .int .i64 (0), .int .i64 (0), .int .i64 (0), .int .i64 (0), .int .i64 (0), .int .i64 (0), .int .i64 (0), .nils, .nils, .int .i64 (0), .int .i64 (0), .int .i64 (0), .int .i64 (0), .int .i64 (0), .int .i64 (0), .int .i64 (0), .int .i64 (0)])], 2, [], []⟩) h (fun Q h => ?_) (fun v15 h => ?_)
                · conv => whnf
                  refine XSplit.mk (fun e => ?_) (fun e => ?_)
                  · replace h := XSplit.t h e
                    conv => whnf
                    refine ⟨_, Weak.a ?_, h⟩; (conv => whnf); exact ⟨rfl, rfl, rfl, rfl, rfl⟩
                  · replace h := XSplit.f h e
                    conv => whnf
                    refine ⟨_, Weak.a ?_, h⟩; (conv => whnf); exact ⟨rfl, rfl, rfl, rfl, rfl⟩
                · conv => whnf
                  refine ⟨_, Weak.a ?_, ?_, h⟩; (conv => whnf); exact ⟨rfl, rfl, rfl, rfl, rfl⟩; exact rfl

theorem c_model_empty {a0 : Int} {a1 : Int} {a2 : Int} {a3 : Int} {a4 : Int} {a5 : Int} {a6 : Int} {a7 : Int} {a8 : Int} {a9 : Int} {a10 : Int} {a11 : Int} {a12 : Bool} {a13 : Rws} {a14 : Bool} {a15 : Rws} {a16 : Int} {a17 : Int} {a18 : Int} {a19 : Int} {a20 : Int} {a21 : Int} {a22 : Int} {a23 : Int} {Q : Bool → Prop} {R : AV → List AB → Prop} (h : (g_model_empty a0 a1 a2 a3 a4 a5 a6 a7 a8 a9 a10 a11 a12 a13 a14 a15 a16 a17 a18 a19 a20 a21 a22 a23).run Q) (k : ∀ r, Q r → R (.bool (r)) ([])) : ACalls Try.prog tab 59 [.agg [.int .i64 (a0), .int .i64 (a1), .int .i64 (a2), .int .i64 (a3), .int .i64 (a4), .int .i64 (a5), .int .i64 (a6), .int .i64 (a7), .int .i64 (a8), .int .i64 (a9), .int .i64 (a10), .int .i64 (a11), .sl (a12) 48 (a13), .sl (a14) 21 (a15), .int .i64 (a16), .int .i64 (a17), .int .i64 (a18), .int .i64 (a19), .int .i64 (a20), .int .i64 (a21), .int .i64 (a22), .int .i64 (a23)]] [] R := by
  refine ACalls.out (fun r => .bool (r)) (fun r => []) (Q := Q) (ACalls.introX (mv := mv) tab_ok mixed_ (fn := Try.f59) (by kernel_rfl) rfl (by kernel_rfl) (by kernel_rfl) (Nat.le_of_ble_eq_true rfl) ?_) (fun v => by first | exact ⟨rfl, Nat.le_of_ble_eq_true rfl⟩ | (cases v <;> exact ⟨rfl, Nat.le_of_ble_eq_true rfl⟩)) k
  conv => whnf
  refine ⟨_, Weak.a ?_, ?_, h⟩; (conv => whnf); exact ⟨rfl, rfl, rfl, rfl, rfl⟩; exact rfl

theorem c_window_within {a0 : Int} {a1 : Int} {a2 : Int} {Q : Bool → Prop} {R : AV → List AB → Prop} (h : (g_window_within a0 a1 a2).run Q) (k : ∀ r, Q r → R (.bool (r)) ([])) : ACalls Try.prog tab 102 [.int .i64 (a0), .int .i64 (a1), .int .i64 (a2)] [] R := by
  refine ACalls.out (fun r => .bool (r)) (fun r => []) (Q := Q) (ACalls.introX (mv := mv) tab_ok mixed_ (fn := Try.f102) (by kernel_rfl) rfl (by kernel_rfl) (by kernel_rfl) (Nat.le_of_ble_eq_true rfl) ?_) (fun v => by first | exact ⟨rfl, Nat.le_of_ble_eq_true rfl⟩ | (cases v <;> exact ⟨rfl, Nat.le_of_ble_eq_true rfl⟩)) k
  conv => whnf
  refine ⟨_, Weak.a ?_, ?_, h⟩; (conv => whnf); exact ⟨rfl, rfl, rfl, rfl, rfl⟩; exact rfl

theorem c_window_side {a0 : Int} {a1 : Int} {a2 : Int} {a3 : Int} {Q : Bool → Prop} {R : AV → List AB → Prop} (h : (g_window_side a0 a1 a2 a3).run Q) (k : ∀ r, Q r → R (.bool (r)) ([])) : ACalls Try.prog tab 125 [.int .i64 (a0), .int .i64 (a1), .int .i64 (a2), .int .i64 (a3)] [] R := by
  refine ACalls.out (fun r => .bool (r)) (fun r => []) (Q := Q) (ACalls.introX (mv := mv) tab_ok mixed_ (fn := Try.f125) (by kernel_rfl) rfl (by kernel_rfl) (by kernel_rfl) (Nat.le_of_ble_eq_true rfl) ?_) (fun v => by first | exact ⟨rfl, Nat.le_of_ble_eq_true rfl⟩ | (cases v <;> exact ⟨rfl, Nat.le_of_ble_eq_true rfl⟩)) k
  conv => whnf
  refine ASeq.joinW tab_ok mixed_ (fun v5 => ⟨[(8, .bool (v5))], [], 0, [], []⟩) h (fun Q h => ?_) (fun v5 h => ?_)
  · conv => whnf
    refine ACalls.inn (c_window_within (W.bindE h) (fun v6 h => ?_)) ⟨rfl, rfl⟩
    conv => whnf
    refine XSplit.mk (fun e => ?_) (fun e => ?_)
    · replace h := XSplit.t h e
      conv => whnf
      refine ACalls.inn (c_window_within (W.bindE h) (fun v7 h => ?_)) ⟨rfl, rfl⟩
      conv => whnf
      refine XSplit.mk (fun e => ?_) (fun e => ?_)
      · replace h := XSplit.t h e
        conv => whnf
        refine ACalls.inn (c_window_within (W.bindE h) (fun v8 h => ?_)) ⟨rfl, rfl⟩
        conv => whnf
        refine XSplit.mk (fun e => ?_) (fun e => ?_)
        · replace h := XSplit.t h e
          conv => whnf
          refine ACalls.inn (c_window_within (W.bindE h) (fun v9 h => ?_)) ⟨rfl, rfl⟩
          conv => whnf
          refine ⟨_, Weak.a ?_, h⟩; (conv => whnf); exact ⟨rfl, rfl, rfl, rfl, rfl⟩
        · replace h := XSplit.f h e
          conv => whnf
          refine ⟨_, Weak.a ?_, h⟩; (conv => whnf); exact ⟨rfl, rfl, rfl, rfl, rfl⟩
      · replace h := XSplit.f h e
        conv => whnf
        refine ⟨_, Weak.a ?_, h⟩; (conv => whnf); exact ⟨rfl, rfl, rfl, rfl, rfl⟩
    · replace h := XSplit.f h e
      conv => whnf
      refine ⟨_, Weak.a ?_, h⟩; (conv => whnf); exact ⟨rfl, rfl, rfl, rfl, rfl⟩
  · conv => whnf
    refine ⟨_, Weak.a ?_, ?_, h⟩; (conv => whnf); exact ⟨rfl, rfl, rfl, rfl, rfl⟩; exact rfl

theorem c_window_Valid {a0 : Int} {a1 : Int} {a2 : Int} {a3 : Int} {a4 : Int} {a5 : Int} {a6 : Int} {a7 : Int} {Q : Bool → Prop} {R : AV → List AB → Prop} (h : (g_window_Valid a0 a1 a2 a3 a4 a5 a6 a7).run Q) (k : ∀ r, Q r → R (.bool (r)) ([])) : ACalls Try.prog tab 113 [.agg [.int .i64 (a0), .int .i64 (a1), .int .i64 (a2), .int .i64 (a3), .int .i64 (a4), .int .i64 (a5), .int .i64 (a6), .int .i64 (a7)]] [] R := by
  refine ACalls.out (fun r => .bool (r)) (fun r => []) (Q := Q) (ACalls.introX (mv := mv) tab_ok mixed_ (fn := Try.f113) (by kernel_rfl) rfl (by kernel_rfl) (by kernel_rfl) (Nat.le_of_ble_eq_true rfl) ?_) (fun v => by first | exact ⟨rfl, Nat.le_of_ble_eq_true rfl⟩ | (cases v <;> exact ⟨rfl, Nat.le_of_ble_eq_true rfl⟩)) k
  conv => whnf
  refine ASeq.joinW tab_ok mixed_ (fun v3 => ⟨[(2, .bool (v3))], [], 0, [], []⟩) h (fun Q h => ?_) (fun v3 h => ?_)
  · conv => whnf
    refine ACalls.inn (c_window_side (W.bindE h) (fun v4 h => ?_)) ⟨rfl, rfl⟩
    conv => whnf
    refine XSplit.mk (fun e => ?_) (fun e => ?_)
    · replace h := XSplit.t h e
      conv => whnf
      refine ACalls.inn (c_window_side (W.bindE h) (fun v5 h => ?_)) ⟨rfl, rfl⟩
      conv => whnf
      refine ⟨_, Weak.a ?_, h⟩; (conv => whnf); exact ⟨rfl, rfl, rfl, rfl, rfl⟩
    · replace h := XSplit.f h e
      conv => whnf
      refine ⟨_, Weak.a ?_, h⟩; (conv => whnf); exact ⟨rfl, rfl, rfl, rfl, rfl⟩
  · conv => whnf
    refine ⟨_, Weak.a ?_, ?_, h⟩; (conv => whnf); exact ⟨rfl, rfl, rfl, rfl, rfl⟩; exact rfl

theorem c_window_Out {a0 : Int} {a1 : Int} {a2 : Int} {a3 : Int} {a4 : Int} {a5 : Int} {a6 : Int} {a7 : Int} {a8 : Int} {a9 : Int} {a10 : Int} {Q : Int × Int × Int → Prop} {R : AV → List AB → Prop} (h : (g_window_Out a0 a1 a2 a3 a4 a5 a6 a7 a8 a9 a10).run Q) (k : ∀ r, Q r → R (.tup [.int .i64 (r.fst), .int .i64 (r.snd.fst), .int .i64 (r.snd.snd)]) ([])) : ACalls Try.prog tab 88 [.agg [.int .i64 (a0), .int .i64 (a1), .int .i64 (a2)], .agg [.int .i64 (a3), .int .i64 (a4), .int .i64 (a5), .int .i64 (a6), .int .i64 (a7), .int .i64 (a8), .int .i64 (a9), .int .i64 (a10)]] [] R := by
  refine ACalls.out (fun r => .tup [.int .i64 (r.fst), .int .i64 (r.snd.fst), .int .i64 (r.snd.snd)]) (fun r => []) (Q := Q) (ACalls.introX (mv := mv) tab_ok mixed_ (fn := Try.f88) (by kernel_rfl) rfl (by kernel_rfl) (by kernel_rfl) (Nat.le_of_ble_eq_true rfl) ?_) (fun v => by first | exact ⟨rfl, Nat.le_of_ble_eq_true rfl⟩ | (cases v <;> exact ⟨rfl, Nat.le_of_ble_eq_true rfl⟩)) k
  conv => whnf
  refine ASeq.go tab_ok mixed_ ?_
  conv => whnf
  refine ACalls.inn (c_shape_Elems (W.bindE h) (fun v2 h => ?_)) ⟨rfl, rfl⟩
  conv => whnf
  refine XSplit.mk (fun e => ?_) (fun e => ?_)
  · replace h := XSplit.t h e
    conv => whnf
    refine ⟨_, Weak.a ?_, ?_, h⟩; (conv => whnf); exact ⟨rfl, rfl, rfl, rfl, rfl⟩; exact rfl
  · replace h := XSplit.f h e
    conv => whnf
    refine ASeq.go tab_ok mixed_ ?_
    conv => whnf
    refine ACalls.inn (c_window_Valid (W.bindE h) (fun v3 h => ?_)) ⟨rfl, rfl⟩
    conv => whnf
    refine XSplit.mk (fun e => ?_) (fun e => ?_)
    · replace h := XSplit.t h e
      conv => whnf
      refine ⟨_, Weak.a ?_, ?_, h⟩; (conv => whnf); exact ⟨rfl, rfl, rfl, rfl, rfl⟩; exact rfl
    · replace h := XSplit.f h e
      conv => whnf
      refine XDraw.q [0, 1, 2, 3, 4, 5, 6, 7, 8, 9, 10, 11, 12, 13, 14, 15, 16, 17, 18, 19, 20, 21, 22, 23] (by decide +kernel) ?_
      conv => whnf
      refine ASeq.go tab_ok mixed_ ?_
      conv => whnf
      refine XSplit.mk (fun e => ?_) (fun e => ?_)
      · replace h := XSplit.t h e
        conv => whnf
        refine ⟨_, Weak.a ?_, ?_, h⟩; (conv => whnf); exact ⟨rfl, rfl, rfl, rfl, rfl⟩; exact rfl
      · replace h := XSplit.f h e
        conv => whnf
        refine XDraw.q [0, 1, 2, 3, 4, 5, 6, 7, 8, 9, 10, 11, 12] (by decide +kernel) ?_
        conv => whnf
        refine XNeed.mk (XNeed.c h) ?_; replace h := XNeed.x h
        conv => whnf
        refine XNeed.mk (XNeed.c h) ?_; replace h := XNeed.x h
        conv => whnf
        refine ⟨_, Weak.a ?_, ?_, h⟩; (conv => whnf); exact ⟨rfl, rfl, rfl, rfl, rfl⟩; exact rfl

theorem c_model_makes {a0 : Int} {a1 : Int} {a2 : Int} {a3 : Int} {a4 : Int} {a5 : Int} {a6 : Int} {a7 : Int} {a8 : Int} {a9 : Int} {a10 : Int} {a11 : Int} {a12 : Bool} {a13 : Rws} {a14 : Bool} {a15 : Rws} {a16 : Int} {a17 : Int} {a18 : Int} {a19 : Int} {a20 : Int} {a21 : Int} {a22 : Int} {a23 : Int} {a24 : Int} {a25 : Int} {a26 : Int} {Q : Int × Int × Int × Int × Int × Int → Prop} {R : AV → List AB → Prop} (h : (g_model_makes a0 a1 a2 a3 a4 a5 a6 a7 a8 a9 a10 a11 a12 a13 a14 a15 a16 a17 a18 a19 a20 a21 a22 a23 a24 a25 a26).run Q) (k : ∀ r, Q r → R (.tup [.agg [.int .i64 (r.fst), .int .i64 (r.snd.fst), .int .i64 (r.snd.snd.fst)], .int .i64 (r.snd.snd.snd.fst), .int .i64 (r.snd.snd.snd.snd.fst), .int .i64 (r.snd.snd.snd.snd.snd)]) ([])) : ACalls Try.prog tab 61 [.agg [.int .i64 (a0), .int .i64 (a1), .int .i64 (a2), .int .i64 (a3), .int .i64 (a4), .int .i64 (a5), .int .i64 (a6), .int .i64 (a7), .int .i64 (a8), .int .i64 (a9), .int .i64 (a10), .int .i64 (a11), .sl (a12) 48 (a13), .sl (a14) 21 (a15), .int .i64 (a16), .int .i64 (a17), .int .i64 (a18), .int .i64 (a19), .int .i64 (a20), .int .i64 (a21), .int .i64 (a22), .int .i64 (a23)], .agg [.int .i64 (a24), .int .i64 (a25), .int .i64 (a26)]] [] R := by
  refine ACalls.out (fun r => .tup [.agg [.int .i64 (r.fst), .int .i64 (r.snd.fst), .int .i64 (r.snd.snd.fst)], .int .i64 (r.snd.snd.snd.fst), .int .i64 (r.snd.snd.snd.snd.fst), .int .i64 (r.snd.snd.snd.snd.snd)]) (fun r => []) (Q := Q) (ACalls.introX (mv := mv) tab_ok mixed_ (fn := Try.f61) (by kernel_rfl) rfl (by kernel_rfl) (by kernel_rfl) (Nat.le_of_ble_eq_true rfl) ?_) (fun v => by first | exact ⟨rfl, Nat.le_of_ble_eq_true rfl⟩ | (cases v <;> exact ⟨rfl, Nat.le_of_ble_eq_true rfl⟩)) k
  conv => whnf
  refine ACalls.inn (c_model_of (W.bindE h) (fun v5 h => ?_)) ⟨rfl, rfl⟩
  conv => whnf
  refine ASeq.joinE tab_ok mixed_ (fun v6 => ⟨[(2, .ptr 0 0), (3, .ptr 1 0), (4, .ptr 2 0), (5, .int .i64 (0)), (6, .int .i64 (0)), (7, .int .i64 (0)), (10, .ptr 3 0), (11, .int .i64 (v6.fst))], [(0, .box 47 [.int .i64 (a0), .int .i64 (a1), .int .i64 (a2), .int .i64 (a3), .int .i64 (a4), .int .i64 (a5), .int .i64 (a6), .int .i64 (a7), .int .i64 (a8), .int .i64 (a9), .int .i64 (a10), .int .i64 (a11), .sl (a12) 48 (a13), .sl (a14) 21 (a15), .int .i64 (a16), .int .i64 (a17), .int .i64 (a18), .int .i64 (a19), .int .i64 (a20), .int .i64 (a21), .int .i64 (a22), .int .i64 (a23)]), (1, .box 23 [.int .i64 (a24), .int .i64 (a25), .int .i64 (a26)]), (2, .box 23 [.int .i64 (0), .int .i64 (0), .int .i64 (0)]), (3, .box 23 [.int .i64 (v6.snd.fst), .int .i64 (v6.snd.snd), .int .i64 (a26)])], 4, [], []⟩) h (fun Q h => ?_) (fun v6 h => ?_)
  · conv => whnf
    refine XSplit.mk (fun e => ?_) (fun e => ?_)
    · replace h := XSplit.t h e
      conv => whnf
      refine ACalls.inn (c_window_Out (W.bindE h) (fun v7 h => ?_)) ⟨rfl, rfl⟩
      conv => whnf
      refine ASeq.go tab_ok mixed_ ?_
      conv => whnf
      refine XSplit.mk (fun e => ?_) (fun e => ?_)
      · replace h := XSplit.t h e
        conv => whnf
        refine ⟨_, Weak.a ?_, ?_, h⟩; (conv => whnf); exact ⟨rfl, rfl, rfl, rfl, rfl⟩; exact rfl
      · replace h := XSplit.f h e
        conv => whnf
        refine XDraw.d [0, 1, 2, 3, 4, 5, 6, 7, 8, 9, 10, 11, 12, 13] [[], [], [], [], [], [], [], [], [], [], [4], [], [4], []] (by decide +kernel) ?_
        conv => whnf
        refine ⟨_, Weak.a ?_, h⟩; (conv => whnf); exact ⟨rfl, rfl, rfl, rfl, rfl⟩
    · replace h := XSplit.f h e
      conv => whnf
      refine ⟨_, Weak.a ?_, h⟩; (conv => whnf); exact ⟨rfl, rfl, rfl, rfl, rfl⟩
  · conv => whnf
    refine ASeq.joinW tab_ok mixed_ (fun v8 => ⟨[(4, .ptr 0 0), (5, .int .i64 (0)), (6, .int .i64 (0)), (7, .int .i64 (0)), (10, .ptr 1 0), (11, .int .i64 (v8.fst)), (15, .int .i64 (v8.snd.fst))], [(0, .box 23 [.int .i64 (0), .int .i64 (0), .int .i64 (0)]), (1, .box 23 [.int .i64 (v8.snd.snd.fst), .int .i64 (v8.snd.snd.snd.fst), .int .i64 (v8.snd.snd.snd.snd)])], 2, [], []⟩) h (fun Q h => ?_) (fun v8 h => ?_)
    · conv => whnf
      refine XSplit.mk (fun e => ?_) (fun e => ?_)
      · replace h := XSplit.t h e
        conv => whnf
        refine XDraw.d [0, 1, 2, 3, 4, 5, 6, 7, 8, 9, 10, 11, 12] [[], [], [], [], [], [], [], [], [], [], [], [], [3]] (by decide +kernel) ?_
        conv => whnf
        refine ⟨_, Weak.a ?_, h⟩; (conv => whnf); exact ⟨rfl, rfl, rfl, rfl, rfl⟩
      · replace h := XSplit.f h e
        conv => whnf
        refine XSplit.mk (fun e => ?_) (fun e => ?_)
        · replace h := XSplit.t h e
          conv => whnf
          refine XDraw.d [0, 1, 2, 3, 4, 5] [[], [], [], [], [], [3]] (by decide +kernel) ?_
          conv => whnf
          refine ⟨_, Weak.a ?_, h⟩; (conv => whnf); exact ⟨rfl, rfl, rfl, rfl, rfl⟩
        · replace h := XSplit.f h e
          conv => whnf
          refine ASeq.joinW tab_ok mixed_ (fun v9 => ⟨[(4, .ptr 0 0), (5, .int .i64 (0)), (6, .int .i64 (0)), (7, .int .i64 (0)), (10, .ptr 1 0), (11, .int .i64 (v6.fst)), (15, .int .i64 (0)), (74, .bool (v9))], [(0, .box 23 [.int .i64 (0), .int .i64 (0), .int .i64 (0)]), (1, .box 23 [.int .i64 (v6.snd.fst), .int .i64 (v6.snd.snd), .int .i64 (a26)])], 2, [], []⟩) h (fun Q h => ?_) (fun v9 h => ?_)
          · conv => whnf
            refine XSplit.mk (fun e => ?_) (fun e => ?_)
            · replace h := XSplit.t h e
              conv => whnf
              refine ⟨_, Weak.a ?_, h⟩; (conv => whnf); exact ⟨rfl, rfl, rfl, rfl, rfl⟩
            · replace h := XSplit.f h e
              conv => whnf
              refine ⟨_, Weak.a ?_, h⟩; (conv => whnf); exact ⟨rfl, rfl, rfl, rfl, rfl⟩
          · conv => whnf
            refine XSplit.mk (fun e => ?_) (fun e => ?_)
            · replace h := XSplit.t h e
              conv => whnf
              refine ⟨_, Weak.a ?_, h⟩; (conv => whnf); exact ⟨rfl, rfl, rfl, rfl, rfl⟩
            · replace h := XSplit.f h e
              conv => whnf
              refine ⟨_, Weak.a ?_, h⟩; (conv => whnf); exact ⟨rfl, rfl, rfl, rfl, rfl⟩
    · conv => whnf
      refine XDraw.d [0, 1, 2, 3, 4, 5, 6, 7, 8, 9, 10, 11, 12, 13, 14, 15] [[], [], [], [], [], [], [], [], [], [], [], [], [0], [], [], []] (by decide +kernel) ?_
      conv => whnf
      refine ⟨_, Weak.a ?_, ?_, h⟩; (conv => whnf); exact ⟨rfl, rfl, rfl, rfl, rfl⟩; exact rfl

theorem c_fixq_Valid {a0 : Int} {a1 : Int} {Q : Bool → Prop} {R : AV → List AB → Prop} (h : (g_fixq_Valid a0 a1).run Q) (k : ∀ r, Q r → R (.bool (r)) ([])) : ACalls Try.prog tab 62 [.agg [.int .i64 (a0), .int .i64 (a1)]] [] R := by
  refine ACalls.out (fun r => .bool (r)) (fun r => []) (Q := Q) (ACalls.introX (mv := mv) tab_ok mixed_ (fn := Try.f62) (by kernel_rfl) rfl (by kernel_rfl) (by kernel_rfl) (Nat.le_of_ble_eq_true rfl) ?_) (fun v => by first | exact ⟨rfl, Nat.le_of_ble_eq_true rfl⟩ | (cases v <;> exact ⟨rfl, Nat.le_of_ble_eq_true rfl⟩)) k
  conv => whnf
  refine ⟨_, Weak.a ?_, ?_, h⟩; (conv => whnf); exact ⟨rfl, rfl, rfl, rfl, rfl⟩; exact rfl

theorem c_model_op {a0 : Int} {a1 : Int} {a2 : Int} {a3 : Int} {a4 : Int} {a5 : Int} {a6 : Int} {a7 : Int} {a8 : Int} {a9 : Int} {a10 : Int} {a11 : Int} {a12 : Bool} {a13 : Rws} {a14 : Bool} {a15 : Rws} {a16 : Int} {a17 : Int} {a18 : Int} {a19 : Int} {a20 : Int} {a21 : Int} {a22 : Int} {a23 : Int} {a24 : Bool} {a25 : Rws} {Q : Int × Int × Int × Int × Int → Prop} {R : AV → List AB → Prop} (h : (g_model_op a0 a1 a2 a3 a4 a5 a6 a7 a8 a9 a10 a11 a12 a13 a14 a15 a16 a17 a18 a19 a20 a21 a22 a23 a24 a25).run Q) (k : ∀ r, Q r → R (.tup [.agg [.int .i64 (r.fst), .int .i64 (r.snd.fst), .int .i64 (r.snd.snd.fst)], .int .i64 (r.snd.snd.snd.fst), .int .i64 (r.snd.snd.snd.snd)]) ([])) : ACalls Try.prog tab 37 [.agg [.int .i64 (a0), .int .i64 (a1), .int .i64 (a2), .int .i64 (a3), .int .i64 (a4), .int .i64 (a5), .int .i64 (a6), .int .i64 (a7), .int .i64 (a8), .int .i64 (a9), .int .i64 (a10), .int .i64 (a11), .sl (a12) 48 (a13), .sl (a14) 21 (a15), .int .i64 (a16), .int .i64 (a17), .int .i64 (a18), .int .i64 (a19), .int .i64 (a20), .int .i64 (a21), .int .i64 (a22), .int .i64 (a23)], .sl (a24) 23 (a25)] [] R := by
  refine ACalls.out (fun r => .tup [.agg [.int .i64 (r.fst), .int .i64 (r.snd.fst), .int .i64 (r.snd.snd.fst)], .int .i64 (r.snd.snd.snd.fst), .int .i64 (r.snd.snd.snd.snd)]) (fun r => []) (Q := Q) (ACalls.introX (mv := mv) tab_ok mixed_ (fn := Try.f37) (by kernel_rfl) rfl (by kernel_rfl) (by kernel_rfl) (Nat.le_of_ble_eq_true rfl) ?_) (fun v => by first | exact ⟨rfl, Nat.le_of_ble_eq_true rfl⟩ | (cases v <;> exact ⟨rfl, Nat.le_of_ble_eq_true rfl⟩)) k
  conv => whnf
  refine ACalls.inn (c_model_of (W.bindE h) (fun v11 h => ?_)) ⟨rfl, rfl⟩
  conv => whnf
  refine ASeq.go tab_ok mixed_ ?_
  conv => whnf
  refine XSplit.mk (fun e => ?_) (fun e => ?_)
  · replace h := XSplit.t h e
    conv => whnf
    refine ⟨_, Weak.a ?_, ?_, h⟩; (conv => whnf); exact ⟨rfl, rfl, rfl, rfl, rfl⟩; exact rfl
  · replace h := XSplit.f h e
    conv => whnf
    refine XSplit.mk (fun e => ?_) (fun e => ?_)
    · replace h := XSplit.t h e
      conv => whnf
      refine ⟨_, Weak.a ?_, ?_, h⟩; (conv => whnf); exact ⟨rfl, rfl, rfl, rfl, rfl⟩; exact rfl
    · replace h := XSplit.f h e
      conv => whnf
      refine ACalls.inn (c_model_bare (W.bindE h) (fun v12 h => ?_)) ⟨rfl, rfl⟩
      conv => whnf
      refine ACalls.inn (c_model_empty (W.bindE h) (fun v13 h => ?_)) ⟨rfl, rfl⟩
      conv => whnf
      refine XSplit.mk (fun e => ?_) (fun e => ?_)
      · replace h := XSplit.t h e
        conv => whnf
        refine ⟨_, Weak.a ?_, ?_, h⟩; (conv => whnf); exact ⟨rfl, rfl, rfl, rfl, rfl⟩; exact rfl
      · replace h := XSplit.f h e
        conv => whnf
        refine XSplit.mk (fun e => ?_) (fun e => ?_)
        · replace h := XSplit.t h e
          conv => whnf
          refine ⟨_, Weak.a ?_, ?_, h⟩; (conv => whnf); exact ⟨rfl, rfl, rfl, rfl, rfl⟩; exact rfl
        · replace h := XSplit.f h e
          conv => whnf
          refine XNeed.mk (XNeed.c h) ?_; replace h := XNeed.x h
          conv => whnf
          refine ACalls.inn (c_model_makes (W.bindE h) (fun v14 h => ?_)) ⟨rfl, rfl⟩
          conv => whnf
          refine ASeq.go tab_ok mixed_ ?_
          conv => whnf
          refine XSplit.mk (fun e => ?_) (fun e => ?_)
          · replace h := XSplit.t h e
            conv => whnf
            refine ⟨_, Weak.a ?_, ?_, h⟩; (conv => whnf); exact ⟨rfl, rfl, rfl, rfl, rfl⟩; exact rfl
          · replace h := XSplit.f h e
            conv => whnf
            refine ASeq.go tab_ok mixed_ ?_
            conv => whnf
            refine ACalls.inn (c_shape_Elems (W.bindE h) (fun v15 h => ?_)) ⟨rfl, rfl⟩
            conv => whnf
            refine XDraw.q [0, 1, 2, 3, 4, 5, 6, 7, 8, 9, 10, 11, 12, 13, 14] (by decide +kernel) ?_
            conv => whnf
            refine XNeed.mk (XNeed.c h) ?_; replace h := XNeed.x h
            conv => whnf
            refine XSplit.mk (fun e => ?_) (fun e => ?_)
            · replace h := XSplit.t h e
              conv => whnf
              refine ⟨_, Weak.a ?_, ?_, h⟩; (conv => whnf); exact ⟨rfl, rfl, rfl, rfl, rfl⟩; exact rfl
            · replace h := XSplit.f h e
              conv => whnf
              refine ASeq.joinW tab_ok mixed_ (fun v16 => ⟨[(2, .ptr 0 0), (4, .ptr 1 0), (5, .int .i64 (0)), (6, .int .i64 (0)), (7, .ptr 2 0), (8, .ptr 3 0), (11, .ptr 4 0), (12, .int .i64 (v14.snd.snd.snd.fst)), (13, .int .i64 (v14.snd.snd.snd.snd.fst)), (17, .int .i64 (v16))], [(0, .box 47 [.int .i64 (a0), .int .i64 (a1), .int .i64 (a2), .int .i64 (a3), .int .i64 (a4), .int .i64 (a5), .int .i64 (a6), .int .i64 (a7), .int .i64 (a8), .int .i64 (a9), .int .i64 (a10), .int .i64 (a11), .sl (a12) 48 (a13), .sl (a14) 21 (a15), .int .i64 (a16), .int .i64 (a17), .int .i64 (a18), .int .i64 (a19), .int .i64 (a20), .int .i64 (a21), .int .i64 (a22), .int .i64 (a23)]), (1, .box 23 [.int .i64 (0), .int .i64 (0), .int .i64 (0)]), (2, .box 23 [.int .i64 (0), .int .i64 (0), .int .i64 (0)]), (3, .box 121 [.bool (v11.fst), .bool (v11.snd.fst), .bool (v11.snd.snd.fst), .bool (v11.snd.snd.snd.fst), .bool (v11.snd.snd.snd.snd.fst), .bool (v11.snd.snd.snd.snd.snd.fst), .bool (v11.snd.snd.snd.snd.snd.snd.fst), .bool (v11.snd.snd.snd.snd.snd.snd.snd.fst)]), (4, .box 23 [.int .i64 (v14.fst), .int .i64 (v14.snd.fst), .int .i64 (v14.snd.snd.fst)])], 5, [], []⟩) h (fun Q h => ?_) (fun v16 h => ?_)
              · conv => whnf
                refine XSplit.mk (fun e => ?_) (fun e => ?_)
                · replace h := XSplit.t h e
                  conv => whnf
                  refine ⟨_, Weak.a ?_, h⟩; (conv => whnf); exact ⟨rfl, rfl, rfl, rfl, rfl⟩
                · replace h := XSplit.f h e
                  conv => whnf
                  refine ⟨_, Weak.a ?_, h⟩; (conv => whnf); exact ⟨rfl, rfl, rfl, rfl, rfl⟩
              · conv => whnf
                refine ASeq.go tab_ok mixed_ ?_
                conv => whnf
                refine XSplit.mk (fun e => ?_) (fun e => ?_)
                · replace h := XSplit.t h e
                  conv => whnf
                  refine ⟨_, Weak.a ?_, ?_, h⟩; (conv => whnf); exact ⟨rfl, rfl, rfl, rfl, rfl⟩; exact rfl
                · replace h := XSplit.f h e
                  conv => whnf
                  refine XSplit.mk (fun e => ?_) (fun e => ?_)
                  · replace h := XSplit.t h e
                    conv => whnf
                    refine ⟨_, Weak.a ?_, ?_, h⟩; (conv => whnf); exact ⟨rfl, rfl, rfl, rfl, rfl⟩; exact rfl
                  · replace h := XSplit.f h e
                    conv => whnf
                    refine ASeq.joinW tab_ok mixed_ (fun v17 => ⟨[(2, .ptr 0 0), (4, .ptr 1 0), (5, .int .i64 (0)), (6, .int .i64 (0)), (7, .ptr 2 0), (11, .ptr 3 0), (13, .int .i64 (v14.snd.snd.snd.snd.fst)), (140, .bool (v17))], [(0, .box 47 [.int .i64 (a0), .int .i64 (a1), .int .i64 (a2), .int .i64 (a3), .int .i64 (a4), .int .i64 (a5), .int .i64 (a6), .int .i64 (a7), .int .i64 (a8), .int .i64 (a9), .int .i64 (a10), .int .i64 (a11), .sl (a12) 48 (a13), .sl (a14) 21 (a15), .int .i64 (a16), .int .i64 (a17), .int .i64 (a18), .int .i64 (a19), .int .i64 (a20), .int .i64 (a21), .int .i64 (a22), .int .i64 (a23)]), (1, .box 23 [.int .i64 (0), .int .i64 (0), .int .i64 (0)]), (2, .box 23 [.int .i64 (0), .int .i64 (0), .int .i64 (0)]), (3, .box 23 [.int .i64 (v14.fst), .int .i64 (v14.snd.fst), .int .i64 (v14.snd.snd.fst)])], 4, [], []⟩) h (fun Q h => ?_) (fun v17 h => ?_)
                    · conv => whnf
                      refine XSplit.mk (fun e => ?_) (fun e => ?_)
                      · replace h := XSplit.t h e
                        conv => whnf
                        refine ACalls.inn (c_fixq_Valid (W.bindE h) (fun v18 h => ?_)) ⟨rfl, rfl⟩
                        conv => whnf
                        refine XSplit.mk (fun e => ?_) (fun e => ?_)
                        · replace h := XSplit.t h e
                          conv => whnf
                          refine ⟨_, Weak.a ?_, h⟩; (conv => whnf); exact ⟨rfl, rfl, rfl, rfl, rfl⟩
                        · replace h := XSplit.f h e
                          conv => whnf
                          refine XSplit.mk (fun e => ?_) (fun e => ?_)
                          · replace h := XSplit.t h e
                            conv => whnf
                            refine ACalls.inn (c_fixq_Valid (W.bindE h) (fun v19 h => ?_)) ⟨rfl, rfl⟩
                            conv => whnf
                            refine ⟨_, Weak.a ?_, h⟩; (conv => whnf); exact ⟨rfl, rfl, rfl, rfl, rfl⟩
                          · replace h := XSplit.f h e
                            conv => whnf
                            refine ⟨_, Weak.a ?_, h⟩; (conv => whnf); exact ⟨rfl, rfl, rfl, rfl, rfl⟩
                      · replace h := XSplit.f h e
                        conv => whnf
                        refine XSplit.mk (fun e => ?_) (fun e => ?_)
                        · replace h := XSplit.t h e
                          conv => whnf
                          refine ACalls.inn (c_fixq_Valid (W.bindE h) (fun v20 h => ?_)) ⟨rfl, rfl⟩
                          conv => whnf
                          refine ⟨_, Weak.a ?_, h⟩; (conv => whnf); exact ⟨rfl, rfl, rfl, rfl, rfl⟩
                        · replace h := XSplit.f h e
                          conv => whnf
                          refine ⟨_, Weak.a ?_, h⟩; (conv => whnf); exact ⟨rfl, rfl, rfl, rfl, rfl⟩
                    · conv => whnf
                      refine XSplit.mk (fun e => ?_) (fun e => ?_)
                      · replace h := XSplit.t h e
                        conv => whnf
                        refine ⟨_, Weak.a ?_, ?_, h⟩; (conv => whnf); exact ⟨rfl, rfl, rfl, rfl, rfl⟩; exact rfl
                      · replace h := XSplit.f h e
                        conv => whnf
                        refine ACalls.inn (c_model_byte8 (W.bindE h) (fun v21 h => ?_)) ⟨rfl, rfl⟩
                        conv => whnf
                        refine XSplit.mk (fun e => ?_) (fun e => ?_)
                        · replace h := XSplit.t h e
                          conv => whnf
                          refine ⟨_, Weak.a ?_, ?_, h⟩; (conv => whnf); exact ⟨rfl, rfl, rfl, rfl, rfl⟩; exact rfl
                        · replace h := XSplit.f h e
                          conv => whnf
                          refine ⟨_, Weak.a ?_, ?_, h⟩; (conv => whnf); exact ⟨rfl, rfl, rfl, rfl, rfl⟩; exact rfl
end Go.Proofs.Ytalchibbmkhkpaa.V24

set_option linter.unusedVariables false
set_option maxRecDepth 100000
set_option maxHeartbeats 0
namespace Go.Proofs.Ytalchibbmkhkpaa.V24
open Go.Proofs Go.Proofs.Ytalchibbmkhkpaa.VX
theorem c_model_whole {a0 : Int} {a1 : Int} {a2 : Int} {a3 : Int} {a4 : Int} {a5 : Bool} {a6 : Rws} {a7 : Int} {Q : Int × Int × Int × Int × Bool × Rws → Prop} {R : AV → List AB → Prop} (h : (g_model_whole a0 a1 a2 a3 a4 a5 a6 a7).run Q) (k : ∀ r, Q r → R (.tup [.own 0, .int .i64 (r.fst), .agg [.int .i64 (r.snd.fst), .int .i64 (r.snd.snd.fst), .int .i64 (r.snd.snd.snd.fst)]]) ([.arr true 23 (r.snd.snd.snd.snd.fst) (r.snd.snd.snd.snd.snd)])) : ACalls Try.prog tab 28 [.agg [.int .i64 (a0), .int .i64 (a1), .int .i64 (a2), .int .i64 (a3), .int .i64 (a4), .sl (a5) 47 (a6), .int .i64 (a7)]] [] R := by
  refine ACalls.out (fun r => .tup [.own 0, .int .i64 (r.fst), .agg [.int .i64 (r.snd.fst), .int .i64 (r.snd.snd.fst), .int .i64 (r.snd.snd.snd.fst)]]) (fun r => [.arr true 23 (r.snd.snd.snd.snd.fst) (r.snd.snd.snd.snd.snd)]) (Q := Q) (ACalls.introX (mv := mv) tab_ok mixed_ (fn := Try.f28) (by kernel_rfl) rfl (by kernel_rfl) (by kernel_rfl) (Nat.le_of_ble_eq_true rfl) ?_) (fun v => by first | exact ⟨rfl, Nat.le_of_ble_eq_true rfl⟩ | (cases v <;> exact ⟨rfl, Nat.le_of_ble_eq_true rfl⟩)) k
  conv => whnf
  refine ACalls.inn (c_shape_Elems (W.bindE h) (fun v7 h => ?_)) ⟨rfl, rfl⟩
  conv => whnf
  refine ASeq.go tab_ok mixed_ ?_
  conv => whnf
  refine XSplit.mk (fun e => ?_) (fun e => ?_)
  · replace h := XSplit.t h e
    conv => whnf
    refine ⟨_, Weak.a ?_, ?_, h⟩; (conv => whnf); exact ⟨rfl, rfl, rfl, rfl, rfl⟩; exact rfl
  · replace h := XSplit.f h e
    conv => whnf
    refine ACalls.inn (c_model_byte8 (W.bindE h) (fun v8 h => ?_)) ⟨rfl, rfl⟩
    conv => whnf
    refine XSplit.mk (fun e => ?_) (fun e => ?_)
    · replace h := XSplit.t h e
      conv => whnf
      refine ⟨_, Weak.a ?_, ?_, h⟩; (conv => whnf); exact ⟨rfl, rfl, rfl, rfl, rfl⟩; exact rfl
    · replace h := XSplit.f h e
      conv => whnf
      refine XSplit.mk (fun e => ?_) (fun e => ?_)
      · replace h := XSplit.t h e
        conv => whnf
        refine ⟨_, Weak.a ?_, ?_, h⟩; (conv => whnf); exact ⟨rfl, rfl, rfl, rfl, rfl⟩; exact rfl
      · replace h := XSplit.f h e
        conv => whnf
        refine XSplit.mk (fun e => ?_) (fun e => ?_)
        · replace h := XSplit.t h e
          conv => whnf
          refine ⟨_, Weak.a ?_, ?_, h⟩; (conv => whnf); exact ⟨rfl, rfl, rfl, rfl, rfl⟩; exact rfl
        · replace h := XSplit.f h e
          conv => whnf
          refine ASeq.go tab_ok mixed_ ?_
          conv => whnf
          refine ALoop.ofW tab_ok mixed_ (fun v9 => ⟨[(2, .nils), (3, .int .i64 (0)), (4, .ptr 0 0), (7, .own 1), (8, .int .i64 (v9.fst)), (64, .sl (a5) 47 (a6)), (65, .int .i64 ((↑(List.length a6) : Int))), (66, .int .i64 (v9.snd.fst))], [(0, .box 31 [.int .i64 (0), .int .i64 (0), .int .i64 (0)]), (1, .arr true 23 (false) (v9.snd.snd))], 2, [], []⟩) (sx (fun v10 => (.ret, ⟨[(2, .nils), (3, .int .i64 (0)), (4, .ptr 0 0), (7, .own 1), (8, .int .i64 (v10.fst))], [(0, .box 31 [.int .i64 (v10.snd.fst), .int .i64 (v10.snd.snd.fst), .int .i64 (0)]), (1, .arr true 23 (false) (v10.snd.snd.snd))], 2, [], []⟩)) (fun v11 => (.exit 1, ⟨[(2, .nils), (3, .int .i64 (0)), (4, .ptr 0 0), (7, .own 1), (8, .int .i64 (v11.fst))], [(0, .box 31 [.int .i64 (0), .int .i64 (0), .int .i64 (0)]), (1, .arr true 23 (false) (v11.snd))], 2, [], []⟩))) (W.bindE h) (Weak.a ?_) (fun v9 I Q h => ?_) (fun v h => ?_)
          · conv => whnf
            exact ⟨rfl, rfl, rfl, rfl, rfl⟩
          · conv => whnf
            refine ASeq.go tab_ok mixed_ ?_
            conv => whnf
            refine XSplit.mk (fun e => ?_) (fun e => ?_)
            · replace h := XSplit.t h e
              conv => whnf
              refine ASeq.go tab_ok mixed_ ?_
              conv => whnf
              refine XNeed.mk (XNeed.c h) ?_; replace h := XNeed.x h
              conv => whnf
              refine ACalls.inn (c_model_op (W.bindE h) (fun v12 h => ?_)) ⟨rfl, rfl⟩
              conv => whnf
              refine ASeq.joinW tab_ok mixed_ (fun v13 => ⟨[(2, .nils), (3, .int .i64 (0)), (4, .ptr 0 0), (7, .own 1), (8, .int .i64 (IntKind.i64.wrap (v9.fst + v12.snd.snd.snd.fst))), (9, .int .i64 (v9.snd.fst)), (10, .ptr 2 0), (11, .ptr 3 0), (12, .int .i64 (v12.snd.snd.snd.fst)), (13, .int .i64 (v13)), (64, .sl (a5) 47 (a6)), (65, .int .i64 ((↑(List.length a6) : Int))), (66, .int .i64 (v9.snd.fst)), (67, .bool (decide (v9.snd.fst < (↑(List.length a6) : Int)))), (68, .int .i64 (v9.snd.fst)), (69, .rel 47 (a6) (v9.snd.fst.toNat) 0), (70, .agg [.int .i64 (ri a6 v9.snd.fst.toNat 0), .int .i64 (ri a6 v9.snd.fst.toNat 1), .int .i64 (ri a6 v9.snd.fst.toNat 2), .int .i64 (ri a6 v9.snd.fst.toNat 3), .int .i64 (ri a6 v9.snd.fst.toNat 4), .int .i64 (ri a6 v9.snd.fst.toNat 5), .int .i64 (ri a6 v9.snd.fst.toNat 6), .int .i64 (ri a6 v9.snd.fst.toNat 7), .int .i64 (ri a6 v9.snd.fst.toNat 8), .int .i64 (ri a6 v9.snd.fst.toNat 9), .int .i64 (ri a6 v9.snd.fst.toNat 10), .int .i64 (ri a6 v9.snd.fst.toNat 11), .sl (rn a6 v9.snd.fst.toNat 12) 48 (rr a6 v9.snd.fst.toNat 12), .sl (rn a6 v9.snd.fst.toNat 13) 21 (rr a6 v9.snd.fst.toNat 13), .int .i64 (ri a6 v9.snd.fst.toNat 14), .int .i64 (ri a6 v9.snd.fst.toNat 15), .int .i64 (ri a6 v9.snd.fst.toNat 16), .int .i64 (ri a6 v9.snd.fst.toNat 17), .int .i64 (ri a6 v9.snd.fst.toNat 18), .int .i64 (ri a6 v9.snd.fst.toNat 19), .int .i64 (ri a6 v9.snd.fst.toNat 20), .int .i64 (ri a6 v9.snd.fst.toNat 21)]), (71, .tup [.agg [.int .i64 (v12.fst), .int .i64 (v12.snd.fst), .int .i64 (v12.snd.snd.fst)], .int .i64 (v12.snd.snd.snd.fst), .int .i64 (v12.snd.snd.snd.snd)]), (72, .agg [.int .i64 (ri a6 v9.snd.fst.toNat 0), .int .i64 (ri a6 v9.snd.fst.toNat 1), .int .i64 (ri a6 v9.snd.fst.toNat 2), .int .i64 (ri a6 v9.snd.fst.toNat 3), .int .i64 (ri a6 v9.snd.fst.toNat 4), .int .i64 (ri a6 v9.snd.fst.toNat 5), .int .i64 (ri a6 v9.snd.fst.toNat 6), .int .i64 (ri a6 v9.snd.fst.toNat 7), .int .i64 (ri a6 v9.snd.fst.toNat 8), .int .i64 (ri a6 v9.snd.fst.toNat 9), .int .i64 (ri a6 v9.snd.fst.toNat 10), .int .i64 (ri a6 v9.snd.fst.toNat 11), .sl (rn a6 v9.snd.fst.toNat 12) 48 (rr a6 v9.snd.fst.toNat 12), .sl (rn a6 v9.snd.fst.toNat 13) 21 (rr a6 v9.snd.fst.toNat 13), .int .i64 (ri a6 v9.snd.fst.toNat 14), .int .i64 (ri a6 v9.snd.fst.toNat 15), .int .i64 (ri a6 v9.snd.fst.toNat 16), .int .i64 (ri a6 v9.snd.fst.toNat 17), .int .i64 (ri a6 v9.snd.fst.toNat 18), .int .i64 (ri a6 v9.snd.fst.toNat 19), .int .i64 (ri a6 v9.snd.fst.toNat 20), .int .i64 (ri a6 v9.snd.fst.toNat 21)]), (73, .own 1), (74, .tup [.agg [.int .i64 (v12.fst), .int .i64 (v12.snd.fst), .int .i64 (v12.snd.snd.fst)], .int .i64 (v12.snd.snd.snd.fst), .int .i64 (v12.snd.snd.snd.snd)]), (75, .agg [.int .i64 (v12.fst), .int .i64 (v12.snd.fst), .int .i64 (v12.snd.snd.fst)]), (76, .int .i64 (v12.snd.snd.snd.fst)), (77, .int .i64 (v12.snd.snd.snd.snd)), (78, .int .i64 (v9.fst)), (79, .int .i64 (v12.snd.snd.snd.fst)), (80, .int .i64 (IntKind.i64.wrap (v9.fst + v12.snd.snd.snd.fst))), (81, .int .i64 (v12.snd.snd.snd.snd)), (82, .bool (v12.snd.snd.snd.snd == 0)), (83, .bool (v12.snd.snd.snd.snd == 0)), (86, .bool (v12.snd.snd.snd.snd == 0 && decide (131072 < IntKind.i64.wrap (v9.fst + v12.snd.snd.snd.fst))))], [(0, .box 31 [.int .i64 (0), .int .i64 (0), .int .i64 (0)]), (1, .arr true 23 (false) (v9.snd.snd)), (2, .box 47 [.int .i64 (ri a6 v9.snd.fst.toNat 0), .int .i64 (ri a6 v9.snd.fst.toNat 1), .int .i64 (ri a6 v9.snd.fst.toNat 2), .int .i64 (ri a6 v9.snd.fst.toNat 3), .int .i64 (ri a6 v9.snd.fst.toNat 4), .int .i64 (ri a6 v9.snd.fst.toNat 5), .int .i64 (ri a6 v9.snd.fst.toNat 6), .int .i64 (ri a6 v9.snd.fst.toNat 7), .int .i64 (ri a6 v9.snd.fst.toNat 8), .int .i64 (ri a6 v9.snd.fst.toNat 9), .int .i64 (ri a6 v9.snd.fst.toNat 10), .int .i64 (ri a6 v9.snd.fst.toNat 11), .sl (rn a6 v9.snd.fst.toNat 12) 48 (rr a6 v9.snd.fst.toNat 12), .sl (rn a6 v9.snd.fst.toNat 13) 21 (rr a6 v9.snd.fst.toNat 13), .int .i64 (ri a6 v9.snd.fst.toNat 14), .int .i64 (ri a6 v9.snd.fst.toNat 15), .int .i64 (ri a6 v9.snd.fst.toNat 16), .int .i64 (ri a6 v9.snd.fst.toNat 17), .int .i64 (ri a6 v9.snd.fst.toNat 18), .int .i64 (ri a6 v9.snd.fst.toNat 19), .int .i64 (ri a6 v9.snd.fst.toNat 20), .int .i64 (ri a6 v9.snd.fst.toNat 21)]), (3, .box 23 [.int .i64 (v12.fst), .int .i64 (v12.snd.fst), .int .i64 (v12.snd.snd.fst)])], 4, [], []⟩) h (fun Q h => ?_) (fun v13 h => ?_)
              · conv => whnf
                refine XSplit.mk (fun e => ?_) (fun e => ?_)
                · replace h := XSplit.t h e
                  conv => whnf
                  refine ⟨_, Weak.a ?_, h⟩; (conv => whnf); exact ⟨rfl, rfl, rfl, rfl, rfl⟩
                · replace h := XSplit.f h e
                  conv => whnf
                  refine ⟨_, Weak.a ?_, h⟩; (conv => whnf); exact ⟨rfl, rfl, rfl, rfl, rfl⟩
              · conv => whnf
                refine ASeq.go tab_ok mixed_ ?_
                conv => whnf
                refine XSplit.mk (fun e => ?_) (fun e => ?_)
                · replace h := XSplit.t h e
                  conv => whnf
                  refine ⟨_, ?_, Weak.a ?_, h⟩; exact rfl; (conv => whnf); exact ⟨rfl, rfl, rfl, rfl, rfl⟩
                · replace h := XSplit.f h e
                  conv => whnf
                  refine XNeed.mk (XNeed.c h) ?_; replace h := XNeed.x h
                  conv => whnf
                  refine ⟨_, Weak.a ?_, h⟩; (conv => whnf); exact ⟨rfl, rfl, rfl, rfl, rfl⟩
            · replace h := XSplit.f h e
              conv => whnf
              refine ⟨_, ?_, Weak.a ?_, h⟩; exact rfl; (conv => whnf); exact ⟨rfl, rfl, rfl, rfl, rfl⟩
          · rcases v with v10 | v11
            · conv => whnf
              refine ⟨_, Weak.a ?_, ?_, h⟩; (conv => whnf); exact ⟨rfl, rfl, rfl, rfl, rfl⟩; exact rfl
            · conv => whnf
              refine ⟨_, Weak.a ?_, ?_, h⟩; (conv => whnf); exact ⟨rfl, rfl, rfl, rfl, rfl⟩; exact rfl

theorem c_model_Check {a0 : Int} {a1 : Int} {a2 : Int} {a3 : Int} {a4 : Int} {a5 : Bool} {a6 : Rws} {a7 : Int} {Q : Int × Int × Int → Prop} {R : AV → List AB → Prop} (h : (g_model_Check a0 a1 a2 a3 a4 a5 a6 a7).run Q) (k : ∀ r, Q r → R (.agg [.int .i64 (r.fst), .int .i64 (r.snd.fst), .int .i64 (r.snd.snd)]) ([])) : ACalls Try.prog tab 16 [.agg [.int .i64 (a0), .int .i64 (a1), .int .i64 (a2), .int .i64 (a3), .int .i64 (a4), .sl (a5) 47 (a6), .int .i64 (a7)]] [] R := by
  refine ACalls.out (fun r => .agg [.int .i64 (r.fst), .int .i64 (r.snd.fst), .int .i64 (r.snd.snd)]) (fun r => []) (Q := Q) (ACalls.introX (mv := mv) tab_ok mixed_ (fn := Try.f16) (by kernel_rfl) rfl (by kernel_rfl) (by kernel_rfl) (Nat.le_of_ble_eq_true rfl) ?_) (fun v => by first | exact ⟨rfl, Nat.le_of_ble_eq_true rfl⟩ | (cases v <;> exact ⟨rfl, Nat.le_of_ble_eq_true rfl⟩)) k
  conv => whnf
  refine ACalls.inn (c_model_whole (W.bindE h) (fun v1 h => ?_)) ⟨rfl, rfl⟩
  conv => whnf
  refine ⟨_, Weak.a ?_, ?_, h⟩; (conv => whnf); exact ⟨rfl, rfl, rfl, rfl, rfl⟩; exact rfl

theorem c_trim_reads_q {a0 : Rws} {a1 : Nat} {Q : (Unit) ⊕ (Unit) → Prop} {R : AV → List AB → Prop} (h : (g_trim_reads_q a0 a1).run Q) (k : ∀ r, Q r → R (sx (fun r => .psl 0 2) (fun r => .psl 0 1) r) (sx (fun r => [.box 69 [.rel 47 (a0) (a1) 1, .rel 47 (a0) (a1) 2]]) (fun r => [.box 69 [.rel 47 (a0) (a1) 1]]) r)) : ACalls Try.prog tab 21 [.rel 47 (a0) (a1) 0] [] R := by
  refine ACalls.out (fun r => sx (fun r => .psl 0 2) (fun r => .psl 0 1) r) (fun r => sx (fun r => [.box 69 [.rel 47 (a0) (a1) 1, .rel 47 (a0) (a1) 2]]) (fun r => [.box 69 [.rel 47 (a0) (a1) 1]]) r) (Q := Q) (ACalls.introX (mv := mv) tab_ok mixed_ (fn := Try.f21) (by kernel_rfl) rfl (by kernel_rfl) (by kernel_rfl) (Nat.le_of_ble_eq_true rfl) ?_) (fun v => by first | exact ⟨rfl, Nat.le_of_ble_eq_true rfl⟩ | (cases v <;> exact ⟨rfl, Nat.le_of_ble_eq_true rfl⟩)) k
  conv => whnf
  refine ASeq.go tab_ok mixed_ ?_
  conv => whnf
  refine XSplit.mk (fun e => ?_) (fun e => ?_)
  · replace h := XSplit.t h e
    conv => whnf
    refine XDraw.d [0, 1, 2, 3, 4, 5, 6, 7] [[], [], [], [], [], [], [], []] (by decide +kernel) ?_
    conv => whnf
    refine ⟨_, Weak.a ?_, ?_, h⟩; (conv => whnf); exact ⟨rfl, rfl, rfl, rfl, rfl⟩; exact rfl
  · replace h := XSplit.f h e
    conv => whnf
    refine ⟨_, Weak.a ?_, ?_, h⟩; (conv => whnf); exact ⟨rfl, rfl, rfl, rfl, rfl⟩; exact rfl

theorem c_trim_Live {a0 : Int} {a1 : Int} {a2 : Int} {a3 : Int} {a4 : Int} {a5 : Bool} {a6 : Rws} {a7 : Int} {Q : Int × Int × Int × Bool × Rws → Prop} {R : AV → List AB → Prop} (h : (g_trim_Live a0 a1 a2 a3 a4 a5 a6 a7).run Q) (k : ∀ r, Q r → R (.tup [.own 0, .agg [.int .i64 (r.fst), .int .i64 (r.snd.fst), .int .i64 (r.snd.snd.fst)]]) ([.arr true 4 (r.snd.snd.snd.fst) (r.snd.snd.snd.snd)])) : ACalls Try.prog tab 9 [.agg [.int .i64 (a0), .int .i64 (a1), .int .i64 (a2), .int .i64 (a3), .int .i64 (a4), .sl (a5) 47 (a6), .int .i64 (a7)]] [] R := by
  refine ACalls.out (fun r => .tup [.own 0, .agg [.int .i64 (r.fst), .int .i64 (r.snd.fst), .int .i64 (r.snd.snd.fst)]]) (fun r => [.arr true 4 (r.snd.snd.snd.fst) (r.snd.snd.snd.snd)]) (Q := Q) (ACalls.introX (mv := mv) tab_ok mixed_ (fn := Try.f9) (by kernel_rfl) rfl (by kernel_rfl) (by kernel_rfl) (Nat.le_of_ble_eq_true rfl) ?_) (fun v => by first | exact ⟨rfl, Nat.le_of_ble_eq_true rfl⟩ | (cases v <;> exact ⟨rfl, Nat.le_of_ble_eq_true rfl⟩)) k
  conv => whnf
  refine ASeq.go tab_ok mixed_ ?_
  conv => whnf
  refine ACalls.inn (c_model_Check (W.bindE h) (fun v5 h => ?_)) ⟨rfl, rfl⟩
  conv => whnf
  refine XSplit.mk (fun e => ?_) (fun e => ?_)
  · replace h := XSplit.t h e
    conv => whnf
    refine XDraw.d [0, 1, 2] [[], [], [1]] (by decide +kernel) ?_
    conv => whnf
    refine ⟨_, Weak.a ?_, ?_, h⟩; (conv => whnf); exact ⟨rfl, rfl, rfl, rfl, rfl⟩; exact rfl
  · replace h := XSplit.f h e
    conv => whnf
    refine XNeed.mk (XNeed.c h) ?_; replace h := XNeed.x h
    conv => whnf
    refine ASeq.go tab_ok mixed_ ?_
    conv => whnf
    refine ALoop.ofW tab_ok mixed_ (fun v6 => ⟨[(1, .ptr 0 0), (2, .nils), (3, .ptr 1 0), (5, .own 2), (6, .vw 3 (0) (v6.fst))], [(0, .box 26 [.int .i64 (a0), .int .i64 (a1), .int .i64 (a2), .int .i64 (a3), .int .i64 (a4), .sl (a5) 47 (a6), .int .i64 (a7)]), (1, .box 31 [.int .i64 (0), .int .i64 (0), .int .i64 (0)]), (2, .arr true 4 (false) (v6.snd.fst)), (3, .arr true 3 (false) (v6.snd.snd))], 4, [], []⟩) (fun v7 => (.exit 0, ⟨[(2, .nils), (3, .ptr 0 0), (5, .own 1)], [(0, .box 31 [.int .i64 (0), .int .i64 (0), .int .i64 (0)]), (1, .arr true 4 (false) (v7))], 2, [], []⟩)) (W.bindE h) (Weak.a ?_) (fun v6 I Q h => ?_) (fun v7 h => ?_)
    · conv => whnf
      exact ⟨rfl, rfl, rfl, rfl, rfl⟩
    · conv => whnf
      refine ASeq.go tab_ok mixed_ ?_
      conv => whnf
      refine XSplit.mk (fun e => ?_) (fun e => ?_)
      · replace h := XSplit.t h e
        conv => whnf
        refine XNeed.mk (XNeed.c h) ?_; replace h := XNeed.x h
        conv => whnf
        refine XNeed.mk (XNeed.c h) ?_; replace h := XNeed.x h
        conv => whnf
        refine ASeq.go tab_ok mixed_ ?_
        conv => whnf
        refine XNeed.mk (XNeed.c h) ?_; replace h := XNeed.x h
        conv => whnf
        refine XSplit.mk (fun e => ?_) (fun e => ?_)
        · replace h := XSplit.t h e
          conv => whnf
          refine ⟨_, Weak.a ?_, h⟩; (conv => whnf); exact ⟨rfl, rfl, rfl, rfl, rfl⟩
        · replace h := XSplit.f h e
          conv => whnf
          refine XNeed.mk (XNeed.c h) ?_; replace h := XNeed.x h
          conv => whnf
          refine XSplit.mk (fun e => ?_) (fun e => ?_)
          · replace h := XSplit.t h e
            conv => whnf
            refine XNeed.mk (XNeed.c h) ?_; replace h := XNeed.x h
            conv => whnf
            refine ACalls.inn (c_trim_reads_q (W.bindE h) (fun v h => ?_)) ⟨rfl, rfl⟩
            rcases v with v8 | v9
            · conv => whnf
              refine ALoop.unroll tab_ok mixed_ (kn := fun st => ALoop Try.prog tab _ _ _ _ st _) (fun _ h => h) ?_
              conv => whnf
              refine ASeq.go tab_ok mixed_ ?_
              conv => whnf
              refine XSplit.tt rfl ?_
              conv => whnf
              refine ASeq.go tab_ok mixed_ ?_
              conv => whnf
              refine XNeed.mk (of_decide_eq_true rfl) ?_
              conv => whnf
              refine XNeed.mk (XNeed.c h) ?_; replace h := XNeed.x h
              conv => whnf
              refine ALoop.unroll tab_ok mixed_ (kn := fun st => ALoop Try.prog tab _ _ _ _ st _) (fun _ h => h) ?_
              conv => whnf
              refine ASeq.go tab_ok mixed_ ?_
              conv => whnf
              refine XSplit.tt rfl ?_
              conv => whnf
              refine ASeq.go tab_ok mixed_ ?_
              conv => whnf
              refine XNeed.mk (of_decide_eq_true rfl) ?_
              conv => whnf
              refine XNeed.mk (XNeed.c h) ?_; replace h := XNeed.x h
              conv => whnf
              refine ALoop.unroll tab_ok mixed_ (kn := fun st => ALoop Try.prog tab _ _ _ _ st _) (fun _ h => h) ?_
              conv => whnf
              refine ASeq.go tab_ok mixed_ ?_
              conv => whnf
              refine XSplit.ff rfl ?_
              conv => whnf
              refine ⟨_, Weak.a ?_, h⟩; (conv => whnf); exact ⟨rfl, rfl, rfl, rfl, rfl⟩
            · conv => whnf
              refine ALoop.unroll tab_ok mixed_ (kn := fun st => ALoop Try.prog tab _ _ _ _ st _) (fun _ h => h) ?_
              conv => whnf
              refine ASeq.go tab_ok mixed_ ?_
              conv => whnf
              refine XSplit.tt rfl ?_
              conv => whnf
              refine ASeq.go tab_ok mixed_ ?_
              conv => whnf
              refine XNeed.mk (of_decide_eq_true rfl) ?_
              conv => whnf
              refine XNeed.mk (XNeed.c h) ?_; replace h := XNeed.x h
              conv => whnf
              refine ALoop.unroll tab_ok mixed_ (kn := fun st => ALoop Try.prog tab _ _ _ _ st _) (fun _ h => h) ?_
              conv => whnf
              refine ASeq.go tab_ok mixed_ ?_
              conv => whnf
              refine XSplit.ff rfl ?_
              conv => whnf
              refine ⟨_, Weak.a ?_, h⟩; (conv => whnf); exact ⟨rfl, rfl, rfl, rfl, rfl⟩
          · replace h := XSplit.f h e
            conv => whnf
            refine ⟨_, Weak.a ?_, h⟩; (conv => whnf); exact ⟨rfl, rfl, rfl, rfl, rfl⟩
      · replace h := XSplit.f h e
        conv => whnf
        refine ⟨_, ?_, Weak.a ?_, h⟩; exact rfl; (conv => whnf); exact ⟨rfl, rfl, rfl, rfl, rfl⟩
    · conv => whnf
      refine ⟨_, Weak.a ?_, ?_, h⟩; (conv => whnf); exact ⟨rfl, rfl, rfl, rfl, rfl⟩; exact rfl

theorem c_trim_reads_p {a0 : Int} {a1 : Int} {a2 : Int} {a3 : Int} {a4 : Int} {a5 : Int} {a6 : Int} {a7 : Int} {a8 : Int} {a9 : Int} {a10 : Int} {a11 : Int} {a12 : Bool} {a13 : Rws} {a14 : Bool} {a15 : Rws} {a16 : Int} {a17 : Int} {a18 : Int} {a19 : Int} {a20 : Int} {a21 : Int} {a22 : Int} {a23 : Int} {Q : (Unit) ⊕ (Unit) → Prop} {R : AV → List AB → Prop} (h : (g_trim_reads_p a0 a1 a2 a3 a4 a5 a6 a7 a8 a9 a10 a11 a12 a13 a14 a15 a16 a17 a18 a19 a20 a21 a22 a23).run Q) (k : ∀ r, Q r → R (sx (fun r => .psl 1 2) (fun r => .psl 1 1) r) (sx (fun r => [.box 47 [.int .i64 (a0), .int .i64 (a1), .int .i64 (a2), .int .i64 (a3), .int .i64 (a4), .int .i64 (a5), .int .i64 (a6), .int .i64 (a7), .int .i64 (a8), .int .i64 (a9), .int .i64 (a10), .int .i64 (a11), .sl (a12) 48 (a13), .sl (a14) 21 (a15), .int .i64 (a16), .int .i64 (a17), .int .i64 (a18), .int .i64 (a19), .int .i64 (a20), .int .i64 (a21), .int .i64 (a22), .int .i64 (a23)], .box 69 [.ptr 0 1, .ptr 0 2]]) (fun r => [.box 47 [.int .i64 (a0), .int .i64 (a1), .int .i64 (a2), .int .i64 (a3), .int .i64 (a4), .int .i64 (a5), .int .i64 (a6), .int .i64 (a7), .int .i64 (a8), .int .i64 (a9), .int .i64 (a10), .int .i64 (a11), .sl (a12) 48 (a13), .sl (a14) 21 (a15), .int .i64 (a16), .int .i64 (a17), .int .i64 (a18), .int .i64 (a19), .int .i64 (a20), .int .i64 (a21), .int .i64 (a22), .int .i64 (a23)], .box 69 [.ptr 0 1]]) r)) : ACalls Try.prog tab 21 [.ptr 0 0] [.box 47 [.int .i64 (a0), .int .i64 (a1), .int .i64 (a2), .int .i64 (a3), .int .i64 (a4), .int .i64 (a5), .int .i64 (a6), .int .i64 (a7), .int .i64 (a8), .int .i64 (a9), .int .i64 (a10), .int .i64 (a11), .sl (a12) 48 (a13), .sl (a14) 21 (a15), .int .i64 (a16), .int .i64 (a17), .int .i64 (a18), .int .i64 (a19), .int .i64 (a20), .int .i64 (a21), .int .i64 (a22), .int .i64 (a23)]] R := by
  refine ACalls.out (fun r => sx (fun r => .psl 1 2) (fun r => .psl 1 1) r) (fun r => sx (fun r => [.box 47 [.int .i64 (a0), .int .i64 (a1), .int .i64 (a2), .int .i64 (a3), .int .i64 (a4), .int .i64 (a5), .int .i64 (a6), .int .i64 (a7), .int .i64 (a8), .int .i64 (a9), .int .i64 (a10), .int .i64 (a11), .sl (a12) 48 (a13), .sl (a14) 21 (a15), .int .i64 (a16), .int .i64 (a17), .int .i64 (a18), .int .i64 (a19), .int .i64 (a20), .int .i64 (a21), .int .i64 (a22), .int .i64 (a23)], .box 69 [.ptr 0 1, .ptr 0 2]]) (fun r => [.box 47 [.int .i64 (a0), .int .i64 (a1), .int .i64 (a2), .int .i64 (a3), .int .i64 (a4), .int .i64 (a5), .int .i64 (a6), .int .i64 (a7), .int .i64 (a8), .int .i64 (a9), .int .i64 (a10), .int .i64 (a11), .sl (a12) 48 (a13), .sl (a14) 21 (a15), .int .i64 (a16), .int .i64 (a17), .int .i64 (a18), .int .i64 (a19), .int .i64 (a20), .int .i64 (a21), .int .i64 (a22), .int .i64 (a23)], .box 69 [.ptr 0 1]]) r) (Q := Q) (ACalls.introX (mv := mv) tab_ok mixed_ (fn := Try.f21) (by kernel_rfl) rfl (by kernel_rfl) (by kernel_rfl) (Nat.le_of_ble_eq_true rfl) ?_) (fun v => by first | exact ⟨rfl, Nat.le_of_ble_eq_true rfl⟩ | (cases v <;> exact ⟨rfl, Nat.le_of_ble_eq_true rfl⟩)) k
  conv => whnf
  refine ASeq.go tab_ok mixed_ ?_
  conv => whnf
  refine XSplit.mk (fun e => ?_) (fun e => ?_)
  · replace h := XSplit.t h e
    conv => whnf
    refine XDraw.d [0, 1, 2, 3, 4, 5, 6, 7] [[], [], [], [], [], [], [], []] (by decide +kernel) ?_
    conv => whnf
    refine ⟨_, Weak.a ?_, ?_, h⟩; (conv => whnf); exact ⟨rfl, rfl, rfl, rfl, rfl⟩; exact rfl
  · replace h := XSplit.f h e
    conv => whnf
    refine ⟨_, Weak.a ?_, ?_, h⟩; (conv => whnf); exact ⟨rfl, rfl, rfl, rfl, rfl⟩; exact rfl

theorem c_slices_Clone___int16_int16_ {a0 : Bool} {a1 : Rws} {Q : Bool × Rws → Prop} {R : AV → List AB → Prop} (h : (g_slices_Clone___int16_int16_ a0 a1).run Q) (k : ∀ r, Q r → R (.own 0) ([.arr true 48 (r.fst) (r.snd)])) : ACalls Try.prog tab 22 [.sl (a0) 48 (a1)] [] R := by
  refine ACalls.out (fun r => .own 0) (fun r => [.arr true 48 (r.fst) (r.snd)]) (Q := Q) (ACalls.introX (mv := mv) tab_ok mixed_ (fn := Try.f22) (by kernel_rfl) rfl (by kernel_rfl) (by kernel_rfl) (Nat.le_of_ble_eq_true rfl) ?_) (fun v => by first | exact ⟨rfl, Nat.le_of_ble_eq_true rfl⟩ | (cases v <;> exact ⟨rfl, Nat.le_of_ble_eq_true rfl⟩)) k
  conv => whnf
  refine ASeq.go tab_ok mixed_ ?_
  conv => whnf
  refine XSplit.mk (fun e => ?_) (fun e => ?_)
  · replace h := XSplit.t h e
    conv => whnf
    refine ⟨_, Weak.a ?_, ?_, h⟩; (conv => whnf); exact ⟨rfl, rfl, rfl, rfl, rfl⟩; exact rfl
  · replace h := XSplit.f h e
    conv => whnf
    refine XNeed.mk (XNeed.c h) ?_; replace h := XNeed.x h
    conv => whnf
    refine ⟨_, Weak.a ?_, ?_, h⟩; (conv => whnf); exact ⟨rfl, rfl, rfl, rfl, rfl⟩; exact rfl

theorem c_slices_Clone___int32_int32_ {a0 : Bool} {a1 : Rws} {Q : Bool × Rws → Prop} {R : AV → List AB → Prop} (h : (g_slices_Clone___int32_int32_ a0 a1).run Q) (k : ∀ r, Q r → R (.own 0) ([.arr true 21 (r.fst) (r.snd)])) : ACalls Try.prog tab 23 [.sl (a0) 21 (a1)] [] R := by
  refine ACalls.out (fun r => .own 0) (fun r => [.arr true 21 (r.fst) (r.snd)]) (Q := Q) (ACalls.introX (mv := mv) tab_ok mixed_ (fn := Try.f23) (by kernel_rfl) rfl (by kernel_rfl) (by kernel_rfl) (Nat.le_of_ble_eq_true rfl) ?_) (fun v => by first | exact ⟨rfl, Nat.le_of_ble_eq_true rfl⟩ | (cases v <;> exact ⟨rfl, Nat.le_of_ble_eq_true rfl⟩)) k
  conv => whnf
  refine ASeq.go tab_ok mixed_ ?_
  conv => whnf
  refine XSplit.mk (fun e => ?_) (fun e => ?_)
  · replace h := XSplit.t h e
    conv => whnf
    refine ⟨_, Weak.a ?_, ?_, h⟩; (conv => whnf); exact ⟨rfl, rfl, rfl, rfl, rfl⟩; exact rfl
  · replace h := XSplit.f h e
    conv => whnf
    refine XNeed.mk (XNeed.c h) ?_; replace h := XNeed.x h
    conv => whnf
    refine ⟨_, Weak.a ?_, ?_, h⟩; (conv => whnf); exact ⟨rfl, rfl, rfl, rfl, rfl⟩; exact rfl

theorem c_trim_Trim {a0 : Int} {a1 : Int} {a2 : Int} {a3 : Int} {a4 : Int} {a5 : Bool} {a6 : Rws} {a7 : Int} {Q : Int × Int × Int × Int × Int × Int × Int × Int × Int × Bool × Rws → Prop} {R : AV → List AB → Prop} (h : (g_trim_Trim a0 a1 a2 a3 a4 a5 a6 a7).run Q) (k : ∀ r, Q r → R (.tup [.agg [.int .i64 (r.fst), .int .i64 (r.snd.fst), .int .i64 (r.snd.snd.fst), .int .i64 (r.snd.snd.snd.fst), .int .i64 (r.snd.snd.snd.snd.fst), .own 0, .int .i64 (r.snd.snd.snd.snd.snd.fst)], .agg [.int .i64 (r.snd.snd.snd.snd.snd.snd.fst), .int .i64 (r.snd.snd.snd.snd.snd.snd.snd.fst), .int .i64 (r.snd.snd.snd.snd.snd.snd.snd.snd.fst)]]) ([.arr true 47 (r.snd.snd.snd.snd.snd.snd.snd.snd.snd.fst) (r.snd.snd.snd.snd.snd.snd.snd.snd.snd.snd)])) : ACalls Try.prog tab 10 [.agg [.int .i64 (a0), .int .i64 (a1), .int .i64 (a2), .int .i64 (a3), .int .i64 (a4), .sl (a5) 47 (a6), .int .i64 (a7)]] [] R := by
  refine ACalls.out (fun r => .tup [.agg [.int .i64 (r.fst), .int .i64 (r.snd.fst), .int .i64 (r.snd.snd.fst), .int .i64 (r.snd.snd.snd.fst), .int .i64 (r.snd.snd.snd.snd.fst), .own 0, .int .i64 (r.snd.snd.snd.snd.snd.fst)], .agg [.int .i64 (r.snd.snd.snd.snd.snd.snd.fst), .int .i64 (r.snd.snd.snd.snd.snd.snd.snd.fst), .int .i64 (r.snd.snd.snd.snd.snd.snd.snd.snd.fst)]]) (fun r => [.arr true 47 (r.snd.snd.snd.snd.snd.snd.snd.snd.snd.fst) (r.snd.snd.snd.snd.snd.snd.snd.snd.snd.snd)]) (Q := Q) (ACalls.introX (mv := mv) tab_ok mixed_ (fn := Try.f10) (by kernel_rfl) rfl (by kernel_rfl) (by kernel_rfl) (Nat.le_of_ble_eq_true rfl) ?_) (fun v => by first | exact ⟨rfl, Nat.le_of_ble_eq_true rfl⟩ | (cases v <;> exact ⟨rfl, Nat.le_of_ble_eq_true rfl⟩)) k
  conv => whnf
  refine ACalls.inn (c_trim_Live (W.bindE h) (fun v9 h => ?_)) ⟨rfl, rfl⟩
  conv => whnf
  refine ASeq.go tab_ok mixed_ ?_
  conv => whnf
  refine XSplit.mk (fun e => ?_) (fun e => ?_)
  · replace h := XSplit.t h e
    conv => whnf
    refine XDraw.d [0, 1, 2, 3] [[], [], [1], [2]] (by decide +kernel) ?_
    conv => whnf
    refine ⟨_, Weak.a ?_, ?_, h⟩; (conv => whnf); exact ⟨rfl, rfl, rfl, rfl, rfl⟩; exact rfl
  · replace h := XSplit.f h e
    conv => whnf
    refine XNeed.mk (XNeed.c h) ?_; replace h := XNeed.x h
    conv => whnf
    refine ASeq.go tab_ok mixed_ ?_
    conv => whnf
    refine ALoop.ofW tab_ok mixed_ (fun v10 => ⟨[(1, .ptr 0 0), (2, .ptr 1 0), (3, .ptr 2 0), (4, .own 3), (6, .ptr 4 0), (7, .own 5), (33, .sl (a5) 47 (a6)), (34, .int .i64 ((↑(List.length a6) : Int))), (35, .int .i64 (v10.fst))], [(0, .box 26 [.int .i64 (a0), .int .i64 (a1), .int .i64 (a2), .int .i64 (a3), .int .i64 (a4), .sl (a5) 47 (a6), .int .i64 (a7)]), (1, .box 26 [.int .i64 (0), .int .i64 (0), .int .i64 (0), .int .i64 (0), .int .i64 (0), .nils, .int .i64 (0)]), (2, .box 31 [.int .i64 (0), .int .i64 (0), .int .i64 (0)]), (3, .arr true 4 (v9.snd.snd.snd.fst) (v9.snd.snd.snd.snd)), (4, .box 26 [.int .i64 (a0), .int .i64 (a1), .int .i64 (a2), .int .i64 (a3), .int .i64 (a4), .own 6, .int .i64 (0)]), (5, .arr true 3 (false) (v10.snd.fst)), (6, .arr true 47 (v10.snd.snd.fst) (v10.snd.snd.snd))], 7, [], []⟩) (fun v11 => (.exit 0, ⟨[(1, .ptr 0 0), (2, .ptr 1 0), (3, .ptr 2 0), (6, .ptr 3 0), (7, .own 4)], [(0, .box 26 [.int .i64 (a0), .int .i64 (a1), .int .i64 (a2), .int .i64 (a3), .int .i64 (a4), .sl (a5) 47 (a6), .int .i64 (a7)]), (1, .box 26 [.int .i64 (0), .int .i64 (0), .int .i64 (0), .int .i64 (0), .int .i64 (0), .nils, .int .i64 (0)]), (2, .box 31 [.int .i64 (0), .int .i64 (0), .int .i64 (0)]), (3, .box 26 [.int .i64 (a0), .int .i64 (a1), .int .i64 (a2), .int .i64 (a3), .int .i64 (a4), .own 5, .int .i64 (0)]), (4, .arr true 3 (false) (v11.fst)), (5, .arr true 47 (v11.snd.fst) (v11.snd.snd))], 6, [], []⟩)) (W.bindE h) (Weak.a ?_) (fun v10 I Q h => ?_) (fun v11 h => ?_)
    · conv => whnf
      exact ⟨rfl, rfl, rfl, rfl, rfl⟩
    · conv => whnf
      refine ASeq.go tab_ok mixed_ ?_
      conv => whnf
      refine XSplit.mk (fun e => ?_) (fun e => ?_)
      · replace h := XSplit.t h e
        conv => whnf
        refine ASeq.joinW tab_ok mixed_ (fun v12 => ⟨[(1, .ptr 0 0), (2, .ptr 1 0), (3, .ptr 2 0), (4, .own 3), (6, .ptr 4 0), (7, .own 5), (8, .int .i64 (v10.fst)), (9, .ptr 6 0), (33, .sl (a5) 47 (a6)), (34, .int .i64 ((↑(List.length a6) : Int))), (35, .int .i64 (v10.fst)), (36, .bool (decide (v10.fst < (↑(List.length a6) : Int)))), (37, .int .i64 (v10.fst)), (38, .rel 47 (a6) (v10.fst.toNat) 0), (39, .agg [.int .i64 (ri a6 v10.fst.toNat 0), .int .i64 (ri a6 v10.fst.toNat 1), .int .i64 (ri a6 v10.fst.toNat 2), .int .i64 (ri a6 v10.fst.toNat 3), .int .i64 (ri a6 v10.fst.toNat 4), .int .i64 (ri a6 v10.fst.toNat 5), .int .i64 (ri a6 v10.fst.toNat 6), .int .i64 (ri a6 v10.fst.toNat 7), .int .i64 (ri a6 v10.fst.toNat 8), .int .i64 (ri a6 v10.fst.toNat 9), .int .i64 (ri a6 v10.fst.toNat 10), .int .i64 (ri a6 v10.fst.toNat 11), .sl (rn a6 v10.fst.toNat 12) 48 (rr a6 v10.fst.toNat 12), .sl (rn a6 v10.fst.toNat 13) 21 (rr a6 v10.fst.toNat 13), .int .i64 (ri a6 v10.fst.toNat 14), .int .i64 (ri a6 v10.fst.toNat 15), .int .i64 (ri a6 v10.fst.toNat 16), .int .i64 (ri a6 v10.fst.toNat 17), .int .i64 (ri a6 v10.fst.toNat 18), .int .i64 (ri a6 v10.fst.toNat 19), .int .i64 (ri a6 v10.fst.toNat 20), .int .i64 (ri a6 v10.fst.toNat 21)]), (40, .own 3), (41, .int .i64 (v10.fst)), (42, .int .i64 (IntKind.i64.wrap (v10.fst + 1))), (43, .elt 3 ((IntKind.i64.wrap (v10.fst + 1)).toNat) 0), (44, .bool (rb v9.snd.snd.snd.snd (IntKind.i64.wrap (v10.fst + 1)).toNat 0)), (45, .bool (!rb v9.snd.snd.snd.snd (IntKind.i64.wrap (v10.fst + 1)).toNat 0))], [(0, .box 26 [.int .i64 (a0), .int .i64 (a1), .int .i64 (a2), .int .i64 (a3), .int .i64 (a4), .sl (a5) 47 (a6), .int .i64 (a7)]), (1, .box 26 [.int .i64 (0), .int .i64 (0), .int .i64 (0), .int .i64 (0), .int .i64 (0), .nils, .int .i64 (0)]), (2, .box 31 [.int .i64 (0), .int .i64 (0), .int .i64 (0)]), (3, .arr true 4 (v9.snd.snd.snd.fst) (v9.snd.snd.snd.snd)), (4, .box 26 [.int .i64 (a0), .int .i64 (a1), .int .i64 (a2), .int .i64 (a3), .int .i64 (a4), .own 7, .int .i64 (0)]), (5, .arr true 3 (false) (v12.fst)), (6, .box 47 [.int .i64 (ri a6 v10.fst.toNat 0), .int .i64 (v12.snd.fst), .int .i64 (v12.snd.snd.fst), .int .i64 (ri a6 v10.fst.toNat 3), .int .i64 (ri a6 v10.fst.toNat 4), .int .i64 (ri a6 v10.fst.toNat 5), .int .i64 (ri a6 v10.fst.toNat 6), .int .i64 (ri a6 v10.fst.toNat 7), .int .i64 (ri a6 v10.fst.toNat 8), .int .i64 (ri a6 v10.fst.toNat 9), .int .i64 (ri a6 v10.fst.toNat 10), .int .i64 (ri a6 v10.fst.toNat 11), .sl (v12.snd.snd.snd.fst) 48 (v12.snd.snd.snd.snd.fst), .sl (v12.snd.snd.snd.snd.snd.fst) 21 (v12.snd.snd.snd.snd.snd.snd.fst), .int .i64 (ri a6 v10.fst.toNat 14), .int .i64 (ri a6 v10.fst.toNat 15), .int .i64 (ri a6 v10.fst.toNat 16), .int .i64 (ri a6 v10.fst.toNat 17), .int .i64 (ri a6 v10.fst.toNat 18), .int .i64 (ri a6 v10.fst.toNat 19), .int .i64 (ri a6 v10.fst.toNat 20), .int .i64 (ri a6 v10.fst.toNat 21)]), (7, .arr true 47 (v12.snd.snd.snd.snd.snd.snd.snd.fst) (v12.snd.snd.snd.snd.snd.snd.snd.snd))], 8, [], []⟩) h (fun Q h => ?_) (fun v12 h => ?_)
        · conv => whnf
          refine XNeed.mk (XNeed.c h) ?_; replace h := XNeed.x h
          conv => whnf
          refine ASeq.go tab_ok mixed_ ?_
          conv => whnf
          refine XNeed.mk (XNeed.c h) ?_; replace h := XNeed.x h
          conv => whnf
          refine XSplit.mk (fun e => ?_) (fun e => ?_)
          · replace h := XSplit.t h e
            conv => whnf
            refine ⟨_, Weak.a ?_, h⟩; (conv => whnf); exact ⟨rfl, rfl, rfl, rfl, rfl⟩
          · replace h := XSplit.f h e
            conv => whnf
            refine ASeq.joinW tab_ok mixed_ (fun v13 => ⟨[(1, .ptr 0 0), (2, .ptr 1 0), (3, .ptr 2 0), (4, .own 3), (6, .ptr 4 0), (7, .own 5), (8, .int .i64 (v10.fst)), (9, .ptr 6 0), (33, .sl (a5) 47 (a6)), (34, .int .i64 ((↑(List.length a6) : Int))), (35, .int .i64 (v10.fst)), (36, .bool (decide (v10.fst < (↑(List.length a6) : Int)))), (37, .int .i64 (v10.fst)), (38, .rel 47 (a6) (v10.fst.toNat) 0), (39, .agg [.int .i64 (ri a6 v10.fst.toNat 0), .int .i64 (ri a6 v10.fst.toNat 1), .int .i64 (ri a6 v10.fst.toNat 2), .int .i64 (ri a6 v10.fst.toNat 3), .int .i64 (ri a6 v10.fst.toNat 4), .int .i64 (ri a6 v10.fst.toNat 5), .int .i64 (ri a6 v10.fst.toNat 6), .int .i64 (ri a6 v10.fst.toNat 7), .int .i64 (ri a6 v10.fst.toNat 8), .int .i64 (ri a6 v10.fst.toNat 9), .int .i64 (ri a6 v10.fst.toNat 10), .int .i64 (ri a6 v10.fst.toNat 11), .sl (rn a6 v10.fst.toNat 12) 48 (rr a6 v10.fst.toNat 12), .sl (rn a6 v10.fst.toNat 13) 21 (rr a6 v10.fst.toNat 13), .int .i64 (ri a6 v10.fst.toNat 14), .int .i64 (ri a6 v10.fst.toNat 15), .int .i64 (ri a6 v10.fst.toNat 16), .int .i64 (ri a6 v10.fst.toNat 17), .int .i64 (ri a6 v10.fst.toNat 18), .int .i64 (ri a6 v10.fst.toNat 19), .int .i64 (ri a6 v10.fst.toNat 20), .int .i64 (ri a6 v10.fst.toNat 21)]), (40, .own 3), (41, .int .i64 (v10.fst)), (42, .int .i64 (IntKind.i64.wrap (v10.fst + 1))), (43, .elt 3 ((IntKind.i64.wrap (v10.fst + 1)).toNat) 0), (44, .bool (rb v9.snd.snd.snd.snd (IntKind.i64.wrap (v10.fst + 1)).toNat 0)), (45, .bool (!rb v9.snd.snd.snd.snd (IntKind.i64.wrap (v10.fst + 1)).toNat 0)), (47, .int .i64 (v13.fst)), (48, .int .i64 (v13.snd.fst)), (49, .bool (false)), (53, .own 5), (56, .int .i64 (v13.snd.snd.fst)), (57, .elt 5 (v13.snd.snd.snd.fst) 0), (58, .int .i64 (v13.snd.snd.snd.snd.fst)), (60, .int .i64 (v13.snd.snd.snd.snd.snd.fst))], [(0, .box 26 [.int .i64 (a0), .int .i64 (a1), .int .i64 (a2), .int .i64 (a3), .int .i64 (a4), .sl (a5) 47 (a6), .int .i64 (a7)]), (1, .box 26 [.int .i64 (0), .int .i64 (0), .int .i64 (0), .int .i64 (0), .int .i64 (0), .nils, .int .i64 (0)]), (2, .box 31 [.int .i64 (0), .int .i64 (0), .int .i64 (0)]), (3, .arr true 4 (v9.snd.snd.snd.fst) (v9.snd.snd.snd.snd)), (4, .box 26 [.int .i64 (a0), .int .i64 (a1), .int .i64 (a2), .int .i64 (a3), .int .i64 (a4), .own 7, .int .i64 (0)]), (5, .arr true 3 (false) (v10.snd.fst)), (6, .box 47 [.int .i64 (ri a6 v10.fst.toNat 0), .int .i64 (ri v10.snd.fst (ri a6 v10.fst.toNat 1).toNat 0), .int .i64 (v13.snd.snd.snd.snd.snd.snd), .int .i64 (ri a6 v10.fst.toNat 3), .int .i64 (ri a6 v10.fst.toNat 4), .int .i64 (ri a6 v10.fst.toNat 5), .int .i64 (ri a6 v10.fst.toNat 6), .int .i64 (ri a6 v10.fst.toNat 7), .int .i64 (ri a6 v10.fst.toNat 8), .int .i64 (ri a6 v10.fst.toNat 9), .int .i64 (ri a6 v10.fst.toNat 10), .int .i64 (ri a6 v10.fst.toNat 11), .sl (rn a6 v10.fst.toNat 12) 48 (rr a6 v10.fst.toNat 12), .sl (rn a6 v10.fst.toNat 13) 21 (rr a6 v10.fst.toNat 13), .int .i64 (ri a6 v10.fst.toNat 14), .int .i64 (ri a6 v10.fst.toNat 15), .int .i64 (ri a6 v10.fst.toNat 16), .int .i64 (ri a6 v10.fst.toNat 17), .int .i64 (ri a6 v10.fst.toNat 18), .int .i64 (ri a6 v10.fst.toNat 19), .int .i64 (ri a6 v10.fst.toNat 20), .int .i64 (ri a6 v10.fst.toNat 21)]), (7, .arr true 47 (v10.snd.snd.fst) (v10.snd.snd.snd))], 8, [], []⟩) h (fun Q h => ?_) (fun v13 h => ?_)
            · conv => whnf
              refine ACalls.inn (c_trim_reads_p (W.bindE h) (fun v h => ?_)) ⟨rfl, rfl⟩
              rcases v with v14 | v15
              · conv => whnf
                refine ALoop.unroll tab_ok mixed_ (kn := fun st => ALoop Try.prog tab _ _ _ _ st _) (fun _ h => h) ?_
                conv => whnf
                refine ASeq.go tab_ok mixed_ ?_
                conv => whnf
                refine XSplit.tt rfl ?_
                conv => whnf
                refine ASeq.go tab_ok mixed_ ?_
                conv => whnf
                refine XNeed.mk (of_decide_eq_true rfl) ?_
                conv => whnf
                refine XNeed.mk (XNeed.c h) ?_; replace h := XNeed.x h
                conv => whnf
                refine ALoop.unroll tab_ok mixed_ (kn := fun st => ALoop Try.prog tab _ _ _ _ st _) (fun _ h => h) ?_
                conv => whnf
                refine ASeq.go tab_ok mixed_ ?_
                conv => whnf
                refine XSplit.tt rfl ?_
                conv => whnf
                refine ASeq.go tab_ok mixed_ ?_
                conv => whnf
                refine XNeed.mk (of_decide_eq_true rfl) ?_
                conv => whnf
                refine XNeed.mk (XNeed.c h) ?_; replace h := XNeed.x h
                conv => whnf
                refine ALoop.unroll tab_ok mixed_ (kn := fun st => ALoop Try.prog tab _ _ _ _ st _) (fun _ h => h) ?_
                conv => whnf
                refine ASeq.go tab_ok mixed_ ?_
                conv => whnf
                refine XSplit.ff rfl ?_
                conv => whnf
                refine ⟨_, Weak.a ?_, h⟩; (conv => whnf); exact ⟨rfl, rfl, rfl, rfl, rfl⟩
              · conv => whnf
                refine ALoop.unroll tab_ok mixed_ (kn := fun st => ALoop Try.prog tab _ _ _ _ st _) (fun _ h => h) ?_
                conv => whnf
                refine ASeq.go tab_ok mixed_ ?_
                conv => whnf
                refine XSplit.tt rfl ?_
                conv => whnf
                refine ASeq.go tab_ok mixed_ ?_
                conv => whnf
                refine XNeed.mk (of_decide_eq_true rfl) ?_
                conv => whnf
                refine XNeed.mk (XNeed.c h) ?_; replace h := XNeed.x h
                conv => whnf
                refine ALoop.unroll tab_ok mixed_ (kn := fun st => ALoop Try.prog tab _ _ _ _ st _) (fun _ h => h) ?_
                conv => whnf
                refine ASeq.go tab_ok mixed_ ?_
                conv => whnf
                refine XSplit.ff rfl ?_
                conv => whnf
                refine ⟨_, Weak.a ?_, h⟩; (conv => whnf); exact ⟨rfl, rfl, rfl, rfl, rfl⟩
            · conv => whnf
              refine XDraw.d [0, 1, 3, 4, 2, 5, 6, 7, 8, 9] [[], [], [], [], [], [], [], [6], [], [6]] (by decide +kernel) ?_
              conv => whnf
              refine ACalls.inn (c_slices_Clone___int16_int16_ (W.bindE h) (fun v16 h => ?_)) ⟨rfl, rfl⟩
              conv => whnf
              refine ACalls.inn (c_slices_Clone___int32_int32_ (W.bindE h) (fun v17 h => ?_)) ⟨rfl, rfl⟩
              conv => whnf
              refine XNeed.mk (XNeed.c h) ?_; replace h := XNeed.x h
              conv => whnf
              refine XNeed.mk (XNeed.c h) ?_; replace h := XNeed.x h
              conv => whnf
              refine ⟨_, Weak.a ?_, h⟩; (conv => whnf); exact ⟨rfl, rfl, rfl, rfl, rfl⟩
        · conv => whnf
          refine ⟨_, Weak.a ?_, h⟩; (conv => whnf); exact ⟨rfl, rfl, rfl, rfl, rfl⟩
      · replace h := XSplit.f h e
        conv => whnf
        refine ⟨_, ?_, Weak.a ?_, h⟩; exact rfl; (conv => whnf); exact ⟨rfl, rfl, rfl, rfl, rfl⟩
    · conv => whnf
      refine XNeed.mk (XNeed.c h) ?_; replace h := XNeed.x h
      conv => whnf
      refine ⟨_, Weak.a ?_, ?_, h⟩; (conv => whnf); exact ⟨rfl, rfl, rfl, rfl, rfl⟩; exact rfl

theorem c_ref05_dim {a0 : Int} {Q : Bool → Prop} {R : AV → List AB → Prop} (h : (g_ref05_dim a0).run Q) (k : ∀ r, Q r → R (.bool (r)) ([])) : ACalls Try.prog tab 80 [.int .i64 (a0)] [] R := by
  refine ACalls.out (fun r => .bool (r)) (fun r => []) (Q := Q) (ACalls.introX (mv := mv) tab_ok mixed_ (fn := Try.f80) (by kernel_rfl) rfl (by kernel_rfl) (by kernel_rfl) (Nat.le_of_ble_eq_true rfl) ?_) (fun v => by first | exact ⟨rfl, Nat.le_of_ble_eq_true rfl⟩ | (cases v <;> exact ⟨rfl, Nat.le_of_ble_eq_true rfl⟩)) k
  conv => whnf
  refine ⟨_, Weak.a ?_, ?_, h⟩; (conv => whnf); exact ⟨rfl, rfl, rfl, rfl, rfl⟩; exact rfl

theorem c_ref05_Valid {a0 : Int} {a1 : Int} {a2 : Int} {Q : Bool → Prop} {R : AV → List AB → Prop} (h : (g_ref05_Valid a0 a1 a2).run Q) (k : ∀ r, Q r → R (.bool (r)) ([])) : ACalls Try.prog tab 54 [.agg [.int .i64 (a0), .int .i64 (a1), .int .i64 (a2)]] [] R := by
  refine ACalls.out (fun r => .bool (r)) (fun r => []) (Q := Q) (ACalls.introX (mv := mv) tab_ok mixed_ (fn := Try.f54) (by kernel_rfl) rfl (by kernel_rfl) (by kernel_rfl) (Nat.le_of_ble_eq_true rfl) ?_) (fun v => by first | exact ⟨rfl, Nat.le_of_ble_eq_true rfl⟩ | (cases v <;> exact ⟨rfl, Nat.le_of_ble_eq_true rfl⟩)) k
  conv => whnf
  refine ASeq.joinW tab_ok mixed_ (fun v4 => ⟨[(2, .bool (v4))], [], 0, [], []⟩) h (fun Q h => ?_) (fun v4 h => ?_)
  · conv => whnf
    refine ACalls.inn (c_ref05_dim (W.bindE h) (fun v5 h => ?_)) ⟨rfl, rfl⟩
    conv => whnf
    refine XSplit.mk (fun e => ?_) (fun e => ?_)
    · replace h := XSplit.t h e
      conv => whnf
      refine ACalls.inn (c_ref05_dim (W.bindE h) (fun v6 h => ?_)) ⟨rfl, rfl⟩
      conv => whnf
      refine XSplit.mk (fun e => ?_) (fun e => ?_)
      · replace h := XSplit.t h e
        conv => whnf
        refine ACalls.inn (c_ref05_dim (W.bindE h) (fun v7 h => ?_)) ⟨rfl, rfl⟩
        conv => whnf
        refine ⟨_, Weak.a ?_, h⟩; (conv => whnf); exact ⟨rfl, rfl, rfl, rfl, rfl⟩
      · replace h := XSplit.f h e
        conv => whnf
        refine ⟨_, Weak.a ?_, h⟩; (conv => whnf); exact ⟨rfl, rfl, rfl, rfl, rfl⟩
    · replace h := XSplit.f h e
      conv => whnf
      refine ⟨_, Weak.a ?_, h⟩; (conv => whnf); exact ⟨rfl, rfl, rfl, rfl, rfl⟩
  · conv => whnf
    refine ⟨_, Weak.a ?_, ?_, h⟩; (conv => whnf); exact ⟨rfl, rfl, rfl, rfl, rfl⟩; exact rfl

theorem c_ref08_values {a0 : Int} {Q : Bool → Prop} {R : AV → List AB → Prop} (h : (g_ref08_values a0).run Q) (k : ∀ r, Q r → R (.bool (r)) ([])) : ACalls Try.prog tab 55 [.int .i64 (a0)] [] R := by
  refine ACalls.out (fun r => .bool (r)) (fun r => []) (Q := Q) (ACalls.introX (mv := mv) tab_ok mixed_ (fn := Try.f55) (by kernel_rfl) rfl (by kernel_rfl) (by kernel_rfl) (Nat.le_of_ble_eq_true rfl) ?_) (fun v => by first | exact ⟨rfl, Nat.le_of_ble_eq_true rfl⟩ | (cases v <;> exact ⟨rfl, Nat.le_of_ble_eq_true rfl⟩)) k
  conv => whnf
  refine ⟨_, Weak.a ?_, ?_, h⟩; (conv => whnf); exact ⟨rfl, rfl, rfl, rfl, rfl⟩; exact rfl

theorem c_ref08_Weighs {a0 : Int} {Q : Bool → Prop} {R : AV → List AB → Prop} (h : (g_ref08_Weighs a0).run Q) (k : ∀ r, Q r → R (.bool (r)) ([])) : ACalls Try.prog tab 110 [.int .i64 (a0)] [] R := by
  refine ACalls.out (fun r => .bool (r)) (fun r => []) (Q := Q) (ACalls.introX (mv := mv) tab_ok mixed_ (fn := Try.f110) (by kernel_rfl) rfl (by kernel_rfl) (by kernel_rfl) (Nat.le_of_ble_eq_true rfl) ?_) (fun v => by first | exact ⟨rfl, Nat.le_of_ble_eq_true rfl⟩ | (cases v <;> exact ⟨rfl, Nat.le_of_ble_eq_true rfl⟩)) k
  conv => whnf
  refine ⟨_, Weak.a ?_, ?_, h⟩; (conv => whnf); exact ⟨rfl, rfl, rfl, rfl, rfl⟩; exact rfl

theorem c_ref08_Scales {a0 : Int} {Q : Bool → Prop} {R : AV → List AB → Prop} (h : (g_ref08_Scales a0).run Q) (k : ∀ r, Q r → R (.bool (r)) ([])) : ACalls Try.prog tab 86 [.int .i64 (a0)] [] R := by
  refine ACalls.out (fun r => .bool (r)) (fun r => []) (Q := Q) (ACalls.introX (mv := mv) tab_ok mixed_ (fn := Try.f86) (by kernel_rfl) rfl (by kernel_rfl) (by kernel_rfl) (Nat.le_of_ble_eq_true rfl) ?_) (fun v => by first | exact ⟨rfl, Nat.le_of_ble_eq_true rfl⟩ | (cases v <;> exact ⟨rfl, Nat.le_of_ble_eq_true rfl⟩)) k
  conv => whnf
  refine ⟨_, Weak.a ?_, ?_, h⟩; (conv => whnf); exact ⟨rfl, rfl, rfl, rfl, rfl⟩; exact rfl

theorem c_ref08_Slides {a0 : Int} {Q : Bool → Prop} {R : AV → List AB → Prop} (h : (g_ref08_Slides a0).run Q) (k : ∀ r, Q r → R (.bool (r)) ([])) : ACalls Try.prog tab 111 [.int .i64 (a0)] [] R := by
  refine ACalls.out (fun r => .bool (r)) (fun r => []) (Q := Q) (ACalls.introX (mv := mv) tab_ok mixed_ (fn := Try.f111) (by kernel_rfl) rfl (by kernel_rfl) (by kernel_rfl) (Nat.le_of_ble_eq_true rfl) ?_) (fun v => by first | exact ⟨rfl, Nat.le_of_ble_eq_true rfl⟩ | (cases v <;> exact ⟨rfl, Nat.le_of_ble_eq_true rfl⟩)) k
  conv => whnf
  refine ⟨_, Weak.a ?_, ?_, h⟩; (conv => whnf); exact ⟨rfl, rfl, rfl, rfl, rfl⟩; exact rfl

theorem c_ref08_spare {a0 : Int} {a1 : Int} {a2 : Int} {a3 : Int} {a4 : Int} {a5 : Int} {a6 : Int} {a7 : Int} {a8 : Int} {a9 : Int} {a10 : Int} {a11 : Int} {a12 : Bool} {a13 : Rws} {a14 : Bool} {a15 : Rws} {a16 : Int} {a17 : Int} {a18 : Int} {a19 : Int} {a20 : Int} {a21 : Int} {a22 : Int} {a23 : Int} {Q : Bool → Prop} {R : AV → List AB → Prop} (h : (g_ref08_spare a0 a1 a2 a3 a4 a5 a6 a7 a8 a9 a10 a11 a12 a13 a14 a15 a16 a17 a18 a19 a20 a21 a22 a23).run Q) (k : ∀ r, Q r → R (.bool (r)) ([])) : ACalls Try.prog tab 81 [.agg [.int .i64 (a0), .int .i64 (a1), .int .i64 (a2), .int .i64 (a3), .int .i64 (a4), .int .i64 (a5), .int .i64 (a6), .int .i64 (a7), .int .i64 (a8), .int .i64 (a9), .int .i64 (a10), .int .i64 (a11), .sl (a12) 48 (a13), .sl (a14) 21 (a15), .int .i64 (a16), .int .i64 (a17), .int .i64 (a18), .int .i64 (a19), .int .i64 (a20), .int .i64 (a21), .int .i64 (a22), .int .i64 (a23)]] [] R := by
  refine ACalls.out (fun r => .bool (r)) (fun r => []) (Q := Q) (ACalls.introX (mv := mv) tab_ok mixed_ (fn := Try.f81) (by kernel_rfl) rfl (by kernel_rfl) (by kernel_rfl) (Nat.le_of_ble_eq_true rfl) ?_) (fun v => by first | exact ⟨rfl, Nat.le_of_ble_eq_true rfl⟩ | (cases v <;> exact ⟨rfl, Nat.le_of_ble_eq_true rfl⟩)) k
  conv => whnf
  refine ASeq.go tab_ok mixed_ ?_
  conv => whnf
  refine XSplit.mk (fun e => ?_) (fun e => ?_)
  · replace h := XSplit.t h e
    conv => whnf
    refine ⟨_, Weak.a ?_, ?_, h⟩; (conv => whnf); exact ⟨rfl, rfl, rfl, rfl, rfl⟩; exact rfl
  · replace h := XSplit.f h e
    conv => whnf
    refine ASeq.go tab_ok mixed_ ?_
    conv => whnf
    refine ASeq.joinW tab_ok mixed_ (fun v4 => ⟨[(1, .ptr 0 0), (2, .kb false), (3, .ptr 1 0), (60, .bool (v4))], [(0, .box 47 [.int .i64 (a0), .int .i64 (a1), .int .i64 (a2), .int .i64 (a3), .int .i64 (a4), .int .i64 (a5), .int .i64 (a6), .int .i64 (a7), .int .i64 (a8), .int .i64 (a9), .int .i64 (a10), .int .i64 (a11), .sl (a12) 48 (a13), .sl (a14) 21 (a15), .int .i64 (a16), .int .i64 (a17), .int .i64 (a18), .int .i64 (a19), .int .i64 (a20), .int .i64 (a21), .int .i64 (a22), .int .i64 (a23)]), (1, .box 41 [.int .i64 (a4), .int .i64 (a5), .int .i64 (a6), .int .i64 (a7), .int .i64 (a8), .int .i64 (a9), .int .i64 (a10), .int .i64 (a11)])], 2, [], []⟩) h (fun Q h => ?_) (fun v4 h => ?_)
    · conv => whnf
      refine XSplit.mk (fun e => ?_) (fun e => ?_)
      · replace h := XSplit.t h e
        conv => whnf
        refine ⟨_, Weak.a ?_, h⟩; (conv => whnf); exact ⟨rfl, rfl, rfl, rfl, rfl⟩
      · replace h := XSplit.f h e
        conv => whnf
        refine ACalls.inn (c_ref08_Weighs (W.bindE h) (fun v5 h => ?_)) ⟨rfl, rfl⟩
        conv => whnf
        refine XSplit.mk (fun e => ?_) (fun e => ?_)
        · replace h := XSplit.t h e
          conv => whnf
          refine ⟨_, Weak.a ?_, h⟩; (conv => whnf); exact ⟨rfl, rfl, rfl, rfl, rfl⟩
        · replace h := XSplit.f h e
          conv => whnf
          refine ACalls.inn (c_ref08_Scales (W.bindE h) (fun v6 h => ?_)) ⟨rfl, rfl⟩
          conv => whnf
          refine ⟨_, Weak.a ?_, h⟩; (conv => whnf); exact ⟨rfl, rfl, rfl, rfl, rfl⟩
    · conv => whnf
      refine XSplit.mk (fun e => ?_) (fun e => ?_)
      · replace h := XSplit.t h e
        conv => whnf
        refine ⟨_, Weak.a ?_, ?_, h⟩; (conv => whnf); exact ⟨rfl, rfl, rfl, rfl, rfl⟩; exact rfl
      · replace h := XSplit.f h e
        conv => whnf
        refine ASeq.go tab_ok mixed_ ?_
        conv => whnf
        refine ACalls.inn (c_ref08_Slides (W.bindE h) (fun v7 h => ?_)) ⟨rfl, rfl⟩
        conv => whnf
        refine XSplit.mk (fun e => ?_) (fun e => ?_)
        · replace h := XSplit.t h e
          conv => whnf
          refine ⟨_, Weak.a ?_, ?_, h⟩; (conv => whnf); exact ⟨rfl, rfl, rfl, rfl, rfl⟩; exact rfl
        · replace h := XSplit.f h e
          conv => whnf
          refine ⟨_, Weak.a ?_, ?_, h⟩; (conv => whnf); exact ⟨rfl, rfl, rfl, rfl, rfl⟩; exact rfl

theorem c_ref06_in {a0 : Int} {a1 : Int} {a2 : Int} {Q : Bool → Prop} {R : AV → List AB → Prop} (h : (g_ref06_in a0 a1 a2).run Q) (k : ∀ r, Q r → R (.bool (r)) ([])) : ACalls Try.prog tab 128 [.int .i64 (a0), .int .i64 (a1), .int .i64 (a2)] [] R := by
  refine ACalls.out (fun r => .bool (r)) (fun r => []) (Q := Q) (ACalls.introX (mv := mv) tab_ok mixed_ (fn := Try.f128) (by kernel_rfl) rfl (by kernel_rfl) (by kernel_rfl) (Nat.le_of_ble_eq_true rfl) ?_) (fun v => by first | exact ⟨rfl, Nat.le_of_ble_eq_true rfl⟩ | (cases v <;> exact ⟨rfl, Nat.le_of_ble_eq_true rfl⟩)) k
  conv => whnf
  refine ⟨_, Weak.a ?_, ?_, h⟩; (conv => whnf); exact ⟨rfl, rfl, rfl, rfl, rfl⟩; exact rfl

theorem c_ref06_Valid {a0 : Int} {a1 : Int} {a2 : Int} {a3 : Int} {a4 : Int} {a5 : Int} {a6 : Int} {a7 : Int} {Q : Bool → Prop} {R : AV → List AB → Prop} (h : (g_ref06_Valid a0 a1 a2 a3 a4 a5 a6 a7).run Q) (k : ∀ r, Q r → R (.bool (r)) ([])) : ACalls Try.prog tab 123 [.agg [.int .i64 (a0), .int .i64 (a1), .int .i64 (a2), .int .i64 (a3), .int .i64 (a4), .int .i64 (a5), .int .i64 (a6), .int .i64 (a7)]] [] R := by
  refine ACalls.out (fun r => .bool (r)) (fun r => []) (Q := Q) (ACalls.introX (mv := mv) tab_ok mixed_ (fn := Try.f123) (by kernel_rfl) rfl (by kernel_rfl) (by kernel_rfl) (Nat.le_of_ble_eq_true rfl) ?_) (fun v => by first | exact ⟨rfl, Nat.le_of_ble_eq_true rfl⟩ | (cases v <;> exact ⟨rfl, Nat.le_of_ble_eq_true rfl⟩)) k
  conv => whnf
  refine ASeq.joinW tab_ok mixed_ (fun v9 => ⟨[(2, .bool (v9))], [], 0, [], []⟩) h (fun Q h => ?_) (fun v9 h => ?_)
  · conv => whnf
    refine ACalls.inn (c_ref06_in (W.bindE h) (fun v10 h => ?_)) ⟨rfl, rfl⟩
    conv => whnf
    refine XSplit.mk (fun e => ?_) (fun e => ?_)
    · replace h := XSplit.t h e
      conv => whnf
      refine ACalls.inn (c_ref06_in (W.bindE h) (fun v11 h => ?_)) ⟨rfl, rfl⟩
      conv => whnf
      refine XSplit.mk (fun e => ?_) (fun e => ?_)
      · replace h := XSplit.t h e
        conv => whnf
        refine ACalls.inn (c_ref06_in (W.bindE h) (fun v12 h => ?_)) ⟨rfl, rfl⟩
        conv => whnf
        refine XSplit.mk (fun e => ?_) (fun e => ?_)
        · replace h := XSplit.t h e
          conv => whnf
          refine ACalls.inn (c_ref06_in (W.bindE h) (fun v13 h => ?_)) ⟨rfl, rfl⟩
          conv => whnf
          refine XSplit.mk (fun e => ?_) (fun e => ?_)
          · replace h := XSplit.t h e
            conv => whnf
            refine ACalls.inn (c_ref06_in (W.bindE h) (fun v14 h => ?_)) ⟨rfl, rfl⟩
            conv => whnf
            refine XSplit.mk (fun e => ?_) (fun e => ?_)
            · replace h := XSplit.t h e
              conv => whnf
              refine ACalls.inn (c_ref06_in (W.bindE h) (fun v15 h => ?_)) ⟨rfl, rfl⟩
              conv => whnf
              refine XSplit.mk (fun e => ?_) (fun e => ?_)
              · replace h := XSplit.t h e
                conv => whnf
                refine ACalls.inn (c_ref06_in (W.bindE h) (fun v16 h => ?_)) ⟨rfl, rfl⟩
                conv => whnf
                refine XSplit.mk (fun e => ?_) (fun e => ?_)
                · replace h := XSplit.t h e
                  conv => whnf
                  refine ACalls.inn (c_ref06_in (W.bindE h) (fun v17 h => ?_)) ⟨rfl, rfl⟩
                  conv => whnf
                  refine ⟨_, Weak.a ?_, h⟩; (conv => whnf); exact ⟨rfl, rfl, rfl, rfl, rfl⟩
                · replace h := XSplit.f h e
                  conv => whnf
                  refine ⟨_, Weak.a ?_, h⟩; (conv => whnf); exact ⟨rfl, rfl, rfl, rfl, rfl⟩
              · replace h := XSplit.f h e
                conv => whnf
                refine ⟨_, Weak.a ?_, h⟩; (conv => whnf); exact ⟨rfl, rfl, rfl, rfl, rfl⟩
            · replace h := XSplit.f h e
              conv => whnf
              refine ⟨_, Weak.a ?_, h⟩; (conv => whnf); exact ⟨rfl, rfl, rfl, rfl, rfl⟩
          · replace h := XSplit.f h e
            conv => whnf
            refine ⟨_, Weak.a ?_, h⟩; (conv => whnf); exact ⟨rfl, rfl, rfl, rfl, rfl⟩
        · replace h := XSplit.f h e
          conv => whnf
          refine ⟨_, Weak.a ?_, h⟩; (conv => whnf); exact ⟨rfl, rfl, rfl, rfl, rfl⟩
      · replace h := XSplit.f h e
        conv => whnf
        refine ⟨_, Weak.a ?_, h⟩; (conv => whnf); exact ⟨rfl, rfl, rfl, rfl, rfl⟩
    · replace h := XSplit.f h e
      conv => whnf
      refine ⟨_, Weak.a ?_, h⟩; (conv => whnf); exact ⟨rfl, rfl, rfl, rfl, rfl⟩
  · conv => whnf
    refine ⟨_, Weak.a ?_, ?_, h⟩; (conv => whnf); exact ⟨rfl, rfl, rfl, rfl, rfl⟩; exact rfl

theorem c_ref06_count {a0 : Int} {a1 : Int} {a2 : Int} {Q : Int → Prop} {R : AV → List AB → Prop} (h : (g_ref06_count a0 a1 a2).run Q) (k : ∀ r, Q r → R (.int .i64 (r)) ([])) : ACalls Try.prog tab 124 [.int .i64 (a0), .int .i64 (a1), .int .i64 (a2)] [] R := by
  refine ACalls.out (fun r => .int .i64 (r)) (fun r => []) (Q := Q) (ACalls.introX (mv := mv) tab_ok mixed_ (fn := Try.f124) (by kernel_rfl) rfl (by kernel_rfl) (by kernel_rfl) (Nat.le_of_ble_eq_true rfl) ?_) (fun v => by first | exact ⟨rfl, Nat.le_of_ble_eq_true rfl⟩ | (cases v <;> exact ⟨rfl, Nat.le_of_ble_eq_true rfl⟩)) k
  conv => whnf
  refine ASeq.go tab_ok mixed_ ?_
  conv => whnf
  refine ALoop.ofW tab_ok mixed_ (fun v2 => ⟨[(0, .int .i64 (a0)), (1, .int .i64 (a1)), (2, .int .i64 (a2)), (6, .int .i64 (0)), (7, .int .i64 (v2.fst)), (8, .int .i64 (v2.snd))], [], 0, [], []⟩) (fun v3 => (.exit 0, ⟨[(6, .int .i64 (0)), (7, .int .i64 (v3))], [], 0, [], []⟩)) (W.bindE h) (Weak.a ?_) (fun v2 I Q h => ?_) (fun v3 h => ?_)
  · conv => whnf
    exact ⟨rfl, rfl, rfl, rfl, rfl⟩
  · conv => whnf
    refine ASeq.go tab_ok mixed_ ?_
    conv => whnf
    refine XSplit.mk (fun e => ?_) (fun e => ?_)
    · replace h := XSplit.t h e
      conv => whnf
      refine ASeq.go tab_ok mixed_ ?_
      conv => whnf
      refine ⟨_, Weak.a ?_, h⟩; (conv => whnf); exact ⟨rfl, rfl, rfl, rfl, rfl⟩
    · replace h := XSplit.f h e
      conv => whnf
      refine ⟨_, ?_, Weak.a ?_, h⟩; exact rfl; (conv => whnf); exact ⟨rfl, rfl, rfl, rfl, rfl⟩
  · conv => whnf
    refine ⟨_, Weak.a ?_, ?_, h⟩; (conv => whnf); exact ⟨rfl, rfl, rfl, rfl, rfl⟩; exact rfl

theorem c_ref06_Out {a0 : Int} {a1 : Int} {a2 : Int} {a3 : Int} {a4 : Int} {a5 : Int} {a6 : Int} {a7 : Int} {a8 : Int} {a9 : Int} {a10 : Int} {Q : Int × Int × Int → Prop} {R : AV → List AB → Prop} (h : (g_ref06_Out a0 a1 a2 a3 a4 a5 a6 a7 a8 a9 a10).run Q) (k : ∀ r, Q r → R (.tup [.int .i64 (r.fst), .int .i64 (r.snd.fst), .int .i64 (r.snd.snd)]) ([])) : ACalls Try.prog tab 112 [.agg [.int .i64 (a0), .int .i64 (a1), .int .i64 (a2)], .agg [.int .i64 (a3), .int .i64 (a4), .int .i64 (a5), .int .i64 (a6), .int .i64 (a7), .int .i64 (a8), .int .i64 (a9), .int .i64 (a10)]] [] R := by
  refine ACalls.out (fun r => .tup [.int .i64 (r.fst), .int .i64 (r.snd.fst), .int .i64 (r.snd.snd)]) (fun r => []) (Q := Q) (ACalls.introX (mv := mv) tab_ok mixed_ (fn := Try.f112) (by kernel_rfl) rfl (by kernel_rfl) (by kernel_rfl) (Nat.le_of_ble_eq_true rfl) ?_) (fun v => by first | exact ⟨rfl, Nat.le_of_ble_eq_true rfl⟩ | (cases v <;> exact ⟨rfl, Nat.le_of_ble_eq_true rfl⟩)) k
  conv => whnf
  refine ASeq.go tab_ok mixed_ ?_
  conv => whnf
  refine ACalls.inn (c_ref05_Valid (W.bindE h) (fun v4 h => ?_)) ⟨rfl, rfl⟩
  conv => whnf
  refine XSplit.mk (fun e => ?_) (fun e => ?_)
  · replace h := XSplit.t h e
    conv => whnf
    refine ⟨_, Weak.a ?_, ?_, h⟩; (conv => whnf); exact ⟨rfl, rfl, rfl, rfl, rfl⟩; exact rfl
  · replace h := XSplit.f h e
    conv => whnf
    refine ASeq.go tab_ok mixed_ ?_
    conv => whnf
    refine ACalls.inn (c_ref06_Valid (W.bindE h) (fun v5 h => ?_)) ⟨rfl, rfl⟩
    conv => whnf
    refine XSplit.mk (fun e => ?_) (fun e => ?_)
    · replace h := XSplit.t h e
      conv => whnf
      refine ⟨_, Weak.a ?_, ?_, h⟩; (conv => whnf); exact ⟨rfl, rfl, rfl, rfl, rfl⟩; exact rfl
    · replace h := XSplit.f h e
      conv => whnf
      refine ACalls.inn (c_ref06_count (W.bindE h) (fun v6 h => ?_)) ⟨rfl, rfl⟩
      conv => whnf
      refine ACalls.inn (c_ref06_count (W.bindE h) (fun v7 h => ?_)) ⟨rfl, rfl⟩
      conv => whnf
      refine ASeq.go tab_ok mixed_ ?_
      conv => whnf
      refine XSplit.mk (fun e => ?_) (fun e => ?_)
      · replace h := XSplit.t h e
        conv => whnf
        refine ⟨_, Weak.a ?_, ?_, h⟩; (conv => whnf); exact ⟨rfl, rfl, rfl, rfl, rfl⟩; exact rfl
      · replace h := XSplit.f h e
        conv => whnf
        refine ⟨_, Weak.a ?_, ?_, h⟩; (conv => whnf); exact ⟨rfl, rfl, rfl, rfl, rfl⟩; exact rfl
end Go.Proofs.Ytalchibbmkhkpaa.V24

set_option linter.unusedVariables false
set_option maxRecDepth 100000
set_option maxHeartbeats 0
namespace Go.Proofs.Ytalchibbmkhkpaa.V24
open Go.Proofs Go.Proofs.Ytalchibbmkhkpaa.VX
theorem c_ref08_Makes {a0 : Int} {a1 : Int} {a2 : Int} {a3 : Int} {a4 : Int} {a5 : Int} {a6 : Int} {a7 : Int} {a8 : Int} {a9 : Int} {a10 : Int} {a11 : Int} {a12 : Bool} {a13 : Rws} {a14 : Bool} {a15 : Rws} {a16 : Int} {a17 : Int} {a18 : Int} {a19 : Int} {a20 : Int} {a21 : Int} {a22 : Int} {a23 : Int} {a24 : Int} {a25 : Int} {a26 : Int} {Q : Int × Int × Int × Int → Prop} {R : AV → List AB → Prop} (h : (g_ref08_Makes a0 a1 a2 a3 a4 a5 a6 a7 a8 a9 a10 a11 a12 a13 a14 a15 a16 a17 a18 a19 a20 a21 a22 a23 a24 a25 a26).run Q) (k : ∀ r, Q r → R (.tup [.agg [.int .i64 (r.fst), .int .i64 (r.snd.fst), .int .i64 (r.snd.snd.fst)], .int .i64 (r.snd.snd.snd)]) ([])) : ACalls Try.prog tab 82 [.agg [.int .i64 (a0), .int .i64 (a1), .int .i64 (a2), .int .i64 (a3), .int .i64 (a4), .int .i64 (a5), .int .i64 (a6), .int .i64 (a7), .int .i64 (a8), .int .i64 (a9), .int .i64 (a10), .int .i64 (a11), .sl (a12) 48 (a13), .sl (a14) 21 (a15), .int .i64 (a16), .int .i64 (a17), .int .i64 (a18), .int .i64 (a19), .int .i64 (a20), .int .i64 (a21), .int .i64 (a22), .int .i64 (a23)], .agg [.int .i64 (a24), .int .i64 (a25), .int .i64 (a26)]] [] R := by
  refine ACalls.out (fun r => .tup [.agg [.int .i64 (r.fst), .int .i64 (r.snd.fst), .int .i64 (r.snd.snd.fst)], .int .i64 (r.snd.snd.snd)]) (fun r => []) (Q := Q) (ACalls.introX (mv := mv) tab_ok mixed_ (fn := Try.f82) (by kernel_rfl) rfl (by kernel_rfl) (by kernel_rfl) (Nat.le_of_ble_eq_true rfl) ?_) (fun v => by first | exact ⟨rfl, Nat.le_of_ble_eq_true rfl⟩ | (cases v <;> exact ⟨rfl, Nat.le_of_ble_eq_true rfl⟩)) k
  conv => whnf
  refine ASeq.joinW tab_ok mixed_ (fun v4 => ⟨[(2, .ptr 0 0), (3, .ptr 1 0), (4, .ptr 2 0), (5, .int .i64 (0)), (6, .ptr 3 0)], [(0, .box 47 [.int .i64 (a0), .int .i64 (a1), .int .i64 (a2), .int .i64 (a3), .int .i64 (a4), .int .i64 (a5), .int .i64 (a6), .int .i64 (a7), .int .i64 (a8), .int .i64 (a9), .int .i64 (a10), .int .i64 (a11), .sl (a12) 48 (a13), .sl (a14) 21 (a15), .int .i64 (a16), .int .i64 (a17), .int .i64 (a18), .int .i64 (a19), .int .i64 (a20), .int .i64 (a21), .int .i64 (a22), .int .i64 (a23)]), (1, .box 23 [.int .i64 (a24), .int .i64 (a25), .int .i64 (a26)]), (2, .box 23 [.int .i64 (0), .int .i64 (0), .int .i64 (0)]), (3, .box 23 [.int .i64 (v4.fst), .int .i64 (v4.snd.fst), .int .i64 (v4.snd.snd)])], 4, [], []⟩) h (fun Q h => ?_) (fun v4 h => ?_)
  · conv => whnf
    refine XSplit.mk (fun e => ?_) (fun e => ?_)
    · replace h := XSplit.t h e
      conv => whnf
      refine ⟨_, Weak.a ?_, h⟩; (conv => whnf); exact ⟨rfl, rfl, rfl, rfl, rfl⟩
    · replace h := XSplit.f h e
      conv => whnf
      refine ⟨_, Weak.a ?_, h⟩; (conv => whnf); exact ⟨rfl, rfl, rfl, rfl, rfl⟩
  · conv => whnf
    refine ASeq.joinE tab_ok mixed_ (fun v5 => ⟨[(4, .ptr 0 0), (5, .int .i64 (0)), (6, .ptr 1 0)], [(0, .box 23 [.int .i64 (0), .int .i64 (0), .int .i64 (0)]), (1, .box 23 [.int .i64 (v5.fst), .int .i64 (v5.snd.fst), .int .i64 (v5.snd.snd)])], 2, [], []⟩) h (fun Q h => ?_) (fun v5 h => ?_)
    · conv => whnf
      refine ACalls.inn (c_ref08_Slides (W.bindE h) (fun v6 h => ?_)) ⟨rfl, rfl⟩
      conv => whnf
      refine XSplit.mk (fun e => ?_) (fun e => ?_)
      · replace h := XSplit.t h e
        conv => whnf
        refine ACalls.inn (c_ref06_Out (W.bindE h) (fun v7 h => ?_)) ⟨rfl, rfl⟩
        conv => whnf
        refine ASeq.go tab_ok mixed_ ?_
        conv => whnf
        refine XSplit.mk (fun e => ?_) (fun e => ?_)
        · replace h := XSplit.t h e
          conv => whnf
          refine ⟨_, Weak.a ?_, ?_, h⟩; (conv => whnf); exact ⟨rfl, rfl, rfl, rfl, rfl⟩; exact rfl
        · replace h := XSplit.f h e
          conv => whnf
          refine XSplit.mk (fun e => ?_) (fun e => ?_)
          · replace h := XSplit.t h e
            conv => whnf
            refine ⟨_, Weak.a ?_, h⟩; (conv => whnf); exact ⟨rfl, rfl, rfl, rfl, rfl⟩
          · replace h := XSplit.f h e
            conv => whnf
            refine ⟨_, Weak.a ?_, h⟩; (conv => whnf); exact ⟨rfl, rfl, rfl, rfl, rfl⟩
      · replace h := XSplit.f h e
        conv => whnf
        refine ⟨_, Weak.a ?_, h⟩; (conv => whnf); exact ⟨rfl, rfl, rfl, rfl, rfl⟩
    · conv => whnf
      refine ⟨_, Weak.a ?_, ?_, h⟩; (conv => whnf); exact ⟨rfl, rfl, rfl, rfl, rfl⟩; exact rfl

theorem c_ref08_Reduces {a0 : Int} {Q : Bool → Prop} {R : AV → List AB → Prop} (h : (g_ref08_Reduces a0).run Q) (k : ∀ r, Q r → R (.bool (r)) ([])) : ACalls Try.prog tab 83 [.int .i64 (a0)] [] R := by
  refine ACalls.out (fun r => .bool (r)) (fun r => []) (Q := Q) (ACalls.introX (mv := mv) tab_ok mixed_ (fn := Try.f83) (by kernel_rfl) rfl (by kernel_rfl) (by kernel_rfl) (Nat.le_of_ble_eq_true rfl) ?_) (fun v => by first | exact ⟨rfl, Nat.le_of_ble_eq_true rfl⟩ | (cases v <;> exact ⟨rfl, Nat.le_of_ble_eq_true rfl⟩)) k
  conv => whnf
  refine ⟨_, Weak.a ?_, ?_, h⟩; (conv => whnf); exact ⟨rfl, rfl, rfl, rfl, rfl⟩; exact rfl

theorem c_ref08_Length {a0 : Int} {a1 : Int} {a2 : Int} {a3 : Int} {a4 : Int} {a5 : Int} {a6 : Int} {a7 : Int} {a8 : Int} {a9 : Int} {a10 : Int} {a11 : Int} {a12 : Bool} {a13 : Rws} {a14 : Bool} {a15 : Rws} {a16 : Int} {a17 : Int} {a18 : Int} {a19 : Int} {a20 : Int} {a21 : Int} {a22 : Int} {a23 : Int} {a24 : Int} {a25 : Int} {a26 : Int} {Q : Int → Prop} {R : AV → List AB → Prop} (h : (g_ref08_Length a0 a1 a2 a3 a4 a5 a6 a7 a8 a9 a10 a11 a12 a13 a14 a15 a16 a17 a18 a19 a20 a21 a22 a23 a24 a25 a26).run Q) (k : ∀ r, Q r → R (.int .i64 (r)) ([])) : ACalls Try.prog tab 84 [.agg [.int .i64 (a0), .int .i64 (a1), .int .i64 (a2), .int .i64 (a3), .int .i64 (a4), .int .i64 (a5), .int .i64 (a6), .int .i64 (a7), .int .i64 (a8), .int .i64 (a9), .int .i64 (a10), .int .i64 (a11), .sl (a12) 48 (a13), .sl (a14) 21 (a15), .int .i64 (a16), .int .i64 (a17), .int .i64 (a18), .int .i64 (a19), .int .i64 (a20), .int .i64 (a21), .int .i64 (a22), .int .i64 (a23)], .agg [.int .i64 (a24), .int .i64 (a25), .int .i64 (a26)]] [] R := by
  refine ACalls.out (fun r => .int .i64 (r)) (fun r => []) (Q := Q) (ACalls.introX (mv := mv) tab_ok mixed_ (fn := Try.f84) (by kernel_rfl) rfl (by kernel_rfl) (by kernel_rfl) (Nat.le_of_ble_eq_true rfl) ?_) (fun v => by first | exact ⟨rfl, Nat.le_of_ble_eq_true rfl⟩ | (cases v <;> exact ⟨rfl, Nat.le_of_ble_eq_true rfl⟩)) k
  conv => whnf
  refine ASeq.go tab_ok mixed_ ?_
  conv => whnf
  refine XSplit.mk (fun e => ?_) (fun e => ?_)
  · replace h := XSplit.t h e
    conv => whnf
    refine ⟨_, Weak.a ?_, ?_, h⟩; (conv => whnf); exact ⟨rfl, rfl, rfl, rfl, rfl⟩; exact rfl
  · replace h := XSplit.f h e
    conv => whnf
    refine XSplit.mk (fun e => ?_) (fun e => ?_)
    · replace h := XSplit.t h e
      conv => whnf
      refine ⟨_, Weak.a ?_, ?_, h⟩; (conv => whnf); exact ⟨rfl, rfl, rfl, rfl, rfl⟩; exact rfl
    · replace h := XSplit.f h e
      conv => whnf
      refine ⟨_, Weak.a ?_, ?_, h⟩; (conv => whnf); exact ⟨rfl, rfl, rfl, rfl, rfl⟩; exact rfl

theorem c_ref08_Lists {a0 : Int} {a1 : Int} {a2 : Int} {a3 : Int} {a4 : Int} {a5 : Int} {a6 : Int} {a7 : Int} {a8 : Int} {a9 : Int} {a10 : Int} {a11 : Int} {a12 : Bool} {a13 : Rws} {a14 : Bool} {a15 : Rws} {a16 : Int} {a17 : Int} {a18 : Int} {a19 : Int} {a20 : Int} {a21 : Int} {a22 : Int} {a23 : Int} {a24 : Int} {a25 : Int} {a26 : Int} {Q : Int × Int → Prop} {R : AV → List AB → Prop} (h : (g_ref08_Lists a0 a1 a2 a3 a4 a5 a6 a7 a8 a9 a10 a11 a12 a13 a14 a15 a16 a17 a18 a19 a20 a21 a22 a23 a24 a25 a26).run Q) (k : ∀ r, Q r → R (.tup [.int .i64 (r.fst), .int .i64 (r.snd)]) ([])) : ACalls Try.prog tab 85 [.agg [.int .i64 (a0), .int .i64 (a1), .int .i64 (a2), .int .i64 (a3), .int .i64 (a4), .int .i64 (a5), .int .i64 (a6), .int .i64 (a7), .int .i64 (a8), .int .i64 (a9), .int .i64 (a10), .int .i64 (a11), .sl (a12) 48 (a13), .sl (a14) 21 (a15), .int .i64 (a16), .int .i64 (a17), .int .i64 (a18), .int .i64 (a19), .int .i64 (a20), .int .i64 (a21), .int .i64 (a22), .int .i64 (a23)], .agg [.int .i64 (a24), .int .i64 (a25), .int .i64 (a26)]] [] R := by
  refine ACalls.out (fun r => .tup [.int .i64 (r.fst), .int .i64 (r.snd)]) (fun r => []) (Q := Q) (ACalls.introX (mv := mv) tab_ok mixed_ (fn := Try.f85) (by kernel_rfl) rfl (by kernel_rfl) (by kernel_rfl) (Nat.le_of_ble_eq_true rfl) ?_) (fun v => by first | exact ⟨rfl, Nat.le_of_ble_eq_true rfl⟩ | (cases v <;> exact ⟨rfl, Nat.le_of_ble_eq_true rfl⟩)) k
  conv => whnf
  refine ASeq.go tab_ok mixed_ ?_
  conv => whnf
  refine ASeq.joinW tab_ok mixed_ (fun v3 => ⟨[(2, .ptr 0 0), (3, .ptr 1 0), (4, .int .i64 (0)), (5, .int .i64 (0)), (7, .int .i64 (a0)), (8, .bool (v3))], [(0, .box 47 [.int .i64 (a0), .int .i64 (a1), .int .i64 (a2), .int .i64 (a3), .int .i64 (a4), .int .i64 (a5), .int .i64 (a6), .int .i64 (a7), .int .i64 (a8), .int .i64 (a9), .int .i64 (a10), .int .i64 (a11), .sl (a12) 48 (a13), .sl (a14) 21 (a15), .int .i64 (a16), .int .i64 (a17), .int .i64 (a18), .int .i64 (a19), .int .i64 (a20), .int .i64 (a21), .int .i64 (a22), .int .i64 (a23)]), (1, .box 23 [.int .i64 (a24), .int .i64 (a25), .int .i64 (a26)])], 2, [], []⟩) h (fun Q h => ?_) (fun v3 h => ?_)
  · conv => whnf
    refine XSplit.mk (fun e => ?_) (fun e => ?_)
    · replace h := XSplit.t h e
      conv => whnf
      refine ⟨_, Weak.a ?_, h⟩; (conv => whnf); exact ⟨rfl, rfl, rfl, rfl, rfl⟩
    · replace h := XSplit.f h e
      conv => whnf
      refine ⟨_, Weak.a ?_, h⟩; (conv => whnf); exact ⟨rfl, rfl, rfl, rfl, rfl⟩
  · conv => whnf
    refine XSplit.mk (fun e => ?_) (fun e => ?_)
    · replace h := XSplit.t h e
      conv => whnf
      refine XDraw.d [0, 1, 2, 3, 6, 7, 4, 5, 8, 9] [[], [], [], [], [], [], [], [], [], []] (by decide +kernel) ?_
      conv => whnf
      refine ACalls.inn (c_ref08_Length (W.bindE h) (fun v4 h => ?_)) ⟨rfl, rfl⟩
      conv => whnf
      refine ⟨_, Weak.a ?_, ?_, h⟩; (conv => whnf); exact ⟨rfl, rfl, rfl, rfl, rfl⟩; exact rfl
    · replace h := XSplit.f h e
      conv => whnf
      refine XSplit.mk (fun e => ?_) (fun e => ?_)
      · replace h := XSplit.t h e
        conv => whnf
        refine XDraw.d [0, 1, 2, 3, 6, 7, 4, 5, 8, 9] [[], [], [], [], [], [], [], [], [], []] (by decide +kernel) ?_
        conv => whnf
        refine ACalls.inn (c_ref08_Length (W.bindE h) (fun v5 h => ?_)) ⟨rfl, rfl⟩
        conv => whnf
        refine ⟨_, Weak.a ?_, ?_, h⟩; (conv => whnf); exact ⟨rfl, rfl, rfl, rfl, rfl⟩; exact rfl
      · replace h := XSplit.f h e
        conv => whnf
        refine ⟨_, Weak.a ?_, ?_, h⟩; (conv => whnf); exact ⟨rfl, rfl, rfl, rfl, rfl⟩; exact rfl

theorem c_ref02_Valid {a0 : Int} {a1 : Int} {Q : Bool → Prop} {R : AV → List AB → Prop} (h : (g_ref02_Valid a0 a1).run Q) (k : ∀ r, Q r → R (.bool (r)) ([])) : ACalls Try.prog tab 87 [.int .i64 (a0), .int .i64 (a1)] [] R := by
  refine ACalls.out (fun r => .bool (r)) (fun r => []) (Q := Q) (ACalls.introX (mv := mv) tab_ok mixed_ (fn := Try.f87) (by kernel_rfl) rfl (by kernel_rfl) (by kernel_rfl) (Nat.le_of_ble_eq_true rfl) ?_) (fun v => by first | exact ⟨rfl, Nat.le_of_ble_eq_true rfl⟩ | (cases v <;> exact ⟨rfl, Nat.le_of_ble_eq_true rfl⟩)) k
  conv => whnf
  refine ⟨_, Weak.a ?_, ?_, h⟩; (conv => whnf); exact ⟨rfl, rfl, rfl, rfl, rfl⟩; exact rfl

theorem c_ref08_one {a0 : Int} {a1 : Int} {a2 : Int} {a3 : Int} {a4 : Int} {a5 : Int} {a6 : Int} {a7 : Int} {a8 : Int} {a9 : Int} {a10 : Int} {a11 : Int} {a12 : Bool} {a13 : Rws} {a14 : Bool} {a15 : Rws} {a16 : Int} {a17 : Int} {a18 : Int} {a19 : Int} {a20 : Int} {a21 : Int} {a22 : Int} {a23 : Int} {a24 : Int} {a25 : Bool} {a26 : Rws} {Q : Int × Int × Int × Int → Prop} {R : AV → List AB → Prop} (h : (g_ref08_one a0 a1 a2 a3 a4 a5 a6 a7 a8 a9 a10 a11 a12 a13 a14 a15 a16 a17 a18 a19 a20 a21 a22 a23 a24 a25 a26).run Q) (k : ∀ r, Q r → R (.tup [.agg [.int .i64 (r.fst), .int .i64 (r.snd.fst), .int .i64 (r.snd.snd.fst)], .int .i64 (r.snd.snd.snd)]) ([])) : ACalls Try.prog tab 56 [.agg [.int .i64 (a0), .int .i64 (a1), .int .i64 (a2), .int .i64 (a3), .int .i64 (a4), .int .i64 (a5), .int .i64 (a6), .int .i64 (a7), .int .i64 (a8), .int .i64 (a9), .int .i64 (a10), .int .i64 (a11), .sl (a12) 48 (a13), .sl (a14) 21 (a15), .int .i64 (a16), .int .i64 (a17), .int .i64 (a18), .int .i64 (a19), .int .i64 (a20), .int .i64 (a21), .int .i64 (a22), .int .i64 (a23)], .int .i64 (a24), .sl (a25) 23 (a26)] [] R := by
  refine ACalls.out (fun r => .tup [.agg [.int .i64 (r.fst), .int .i64 (r.snd.fst), .int .i64 (r.snd.snd.fst)], .int .i64 (r.snd.snd.snd)]) (fun r => []) (Q := Q) (ACalls.introX (mv := mv) tab_ok mixed_ (fn := Try.f56) (by kernel_rfl) rfl (by kernel_rfl) (by kernel_rfl) (Nat.le_of_ble_eq_true rfl) ?_) (fun v => by first | exact ⟨rfl, Nat.le_of_ble_eq_true rfl⟩ | (cases v <;> exact ⟨rfl, Nat.le_of_ble_eq_true rfl⟩)) k
  conv => whnf
  refine ASeq.go tab_ok mixed_ ?_
  conv => whnf
  refine XSplit.mk (fun e => ?_) (fun e => ?_)
  · replace h := XSplit.t h e
    conv => whnf
    refine ⟨_, Weak.a ?_, ?_, h⟩; (conv => whnf); exact ⟨rfl, rfl, rfl, rfl, rfl⟩; exact rfl
  · replace h := XSplit.f h e
    conv => whnf
    refine ASeq.go tab_ok mixed_ ?_
    conv => whnf
    refine XSplit.mk (fun e => ?_) (fun e => ?_)
    · replace h := XSplit.t h e
      conv => whnf
      refine ⟨_, Weak.a ?_, ?_, h⟩; (conv => whnf); exact ⟨rfl, rfl, rfl, rfl, rfl⟩; exact rfl
    · replace h := XSplit.f h e
      conv => whnf
      refine ASeq.go tab_ok mixed_ ?_
      conv => whnf
      refine ACalls.inn (c_ref08_spare (W.bindE h) (fun v18 h => ?_)) ⟨rfl, rfl⟩
      conv => whnf
      refine XSplit.mk (fun e => ?_) (fun e => ?_)
      · replace h := XSplit.t h e
        conv => whnf
        refine ⟨_, Weak.a ?_, ?_, h⟩; (conv => whnf); exact ⟨rfl, rfl, rfl, rfl, rfl⟩; exact rfl
      · replace h := XSplit.f h e
        conv => whnf
        refine ASeq.go tab_ok mixed_ ?_
        conv => whnf
        refine XSplit.mk (fun e => ?_) (fun e => ?_)
        · replace h := XSplit.t h e
          conv => whnf
          refine ⟨_, Weak.a ?_, ?_, h⟩; (conv => whnf); exact ⟨rfl, rfl, rfl, rfl, rfl⟩; exact rfl
        · replace h := XSplit.f h e
          conv => whnf
          refine XNeed.mk (XNeed.c h) ?_; replace h := XNeed.x h
          conv => whnf
          refine ACalls.inn (c_ref08_Makes (W.bindE h) (fun v19 h => ?_)) ⟨rfl, rfl⟩
          conv => whnf
          refine ASeq.go tab_ok mixed_ ?_
          conv => whnf
          refine XSplit.mk (fun e => ?_) (fun e => ?_)
          · replace h := XSplit.t h e
            conv => whnf
            refine ⟨_, Weak.a ?_, ?_, h⟩; (conv => whnf); exact ⟨rfl, rfl, rfl, rfl, rfl⟩; exact rfl
          · replace h := XSplit.f h e
            conv => whnf
            refine ASeq.go tab_ok mixed_ ?_
            conv => whnf
            refine ASeq.joinW tab_ok mixed_ (fun v20 => ⟨[(3, .ptr 0 0), (6, .ptr 1 0), (7, .int .i64 (0)), (8, .ptr 2 0), (9, .ptr 3 0), (97, .bool (v20))], [(0, .box 47 [.int .i64 (a0), .int .i64 (a1), .int .i64 (a2), .int .i64 (a3), .int .i64 (a4), .int .i64 (a5), .int .i64 (a6), .int .i64 (a7), .int .i64 (a8), .int .i64 (a9), .int .i64 (a10), .int .i64 (a11), .sl (a12) 48 (a13), .sl (a14) 21 (a15), .int .i64 (a16), .int .i64 (a17), .int .i64 (a18), .int .i64 (a19), .int .i64 (a20), .int .i64 (a21), .int .i64 (a22), .int .i64 (a23)]), (1, .box 23 [.int .i64 (0), .int .i64 (0), .int .i64 (0)]), (2, .box 23 [.int .i64 (ri a26 a1.toNat 0), .int .i64 (ri a26 a1.toNat 1), .int .i64 (ri a26 a1.toNat 2)]), (3, .box 23 [.int .i64 (v19.fst), .int .i64 (v19.snd.fst), .int .i64 (v19.snd.snd.fst)])], 4, [], []⟩) h (fun Q h => ?_) (fun v20 h => ?_)
            · conv => whnf
              refine XDraw.d [0, 1, 2, 3, 4, 5, 6, 7, 8, 9, 10, 11, 12, 13, 14, 15, 16] [[], [], [], [], [], [], [], [], [], [], [], [], [], [], [], [], []] (by decide +kernel) ?_
              conv => whnf
              refine XNeed.mk (XNeed.c h) ?_; replace h := XNeed.x h
              conv => whnf
              refine XSplit.mk (fun e => ?_) (fun e => ?_)
              · replace h := XSplit.t h e
                conv => whnf
                refine ⟨_, Weak.a ?_, h⟩; (conv => whnf); exact ⟨rfl, rfl, rfl, rfl, rfl⟩
              · replace h := XSplit.f h e
                conv => whnf
                refine ACalls.inn (c_ref05_Valid (W.bindE h) (fun v21 h => ?_)) ⟨rfl, rfl⟩
                conv => whnf
                refine ⟨_, Weak.a ?_, h⟩; (conv => whnf); exact ⟨rfl, rfl, rfl, rfl, rfl⟩
            · conv => whnf
              refine XSplit.mk (fun e => ?_) (fun e => ?_)
              · replace h := XSplit.t h e
                conv => whnf
                refine ⟨_, Weak.a ?_, ?_, h⟩; (conv => whnf); exact ⟨rfl, rfl, rfl, rfl, rfl⟩; exact rfl
              · replace h := XSplit.f h e
                conv => whnf
                refine ASeq.go tab_ok mixed_ ?_
                conv => whnf
                refine ASeq.joinW tab_ok mixed_ (fun v22 => ⟨[(3, .ptr 0 0), (6, .ptr 1 0), (7, .int .i64 (0)), (8, .ptr 2 0), (9, .ptr 3 0), (107, .bool (v22))], [(0, .box 47 [.int .i64 (a0), .int .i64 (a1), .int .i64 (a2), .int .i64 (a3), .int .i64 (a4), .int .i64 (a5), .int .i64 (a6), .int .i64 (a7), .int .i64 (a8), .int .i64 (a9), .int .i64 (a10), .int .i64 (a11), .sl (a12) 48 (a13), .sl (a14) 21 (a15), .int .i64 (a16), .int .i64 (a17), .int .i64 (a18), .int .i64 (a19), .int .i64 (a20), .int .i64 (a21), .int .i64 (a22), .int .i64 (a23)]), (1, .box 23 [.int .i64 (0), .int .i64 (0), .int .i64 (0)]), (2, .box 23 [.int .i64 (ri a26 a1.toNat 0), .int .i64 (ri a26 a1.toNat 1), .int .i64 (ri a26 a1.toNat 2)]), (3, .box 23 [.int .i64 (v19.fst), .int .i64 (v19.snd.fst), .int .i64 (v19.snd.snd.fst)])], 4, [], []⟩) h (fun Q h => ?_) (fun v22 h => ?_)
                · conv => whnf
                  refine ACalls.inn (c_ref08_Reduces (W.bindE h) (fun v23 h => ?_)) ⟨rfl, rfl⟩
                  conv => whnf
                  refine XSplit.mk (fun e => ?_) (fun e => ?_)
                  · replace h := XSplit.t h e
                    conv => whnf
                    refine ACalls.inn (c_ref08_Length (W.bindE h) (fun v24 h => ?_)) ⟨rfl, rfl⟩
                    conv => whnf
                    refine ⟨_, Weak.a ?_, h⟩; (conv => whnf); exact ⟨rfl, rfl, rfl, rfl, rfl⟩
                  · replace h := XSplit.f h e
                    conv => whnf
                    refine ⟨_, Weak.a ?_, h⟩; (conv => whnf); exact ⟨rfl, rfl, rfl, rfl, rfl⟩
                · conv => whnf
                  refine XSplit.mk (fun e => ?_) (fun e => ?_)
                  · replace h := XSplit.t h e
                    conv => whnf
                    refine ⟨_, Weak.a ?_, ?_, h⟩; (conv => whnf); exact ⟨rfl, rfl, rfl, rfl, rfl⟩; exact rfl
                  · replace h := XSplit.f h e
                    conv => whnf
                    refine ACalls.inn (c_ref08_Lists (W.bindE h) (fun v25 h => ?_)) ⟨rfl, rfl⟩
                    conv => whnf
                    refine ASeq.go tab_ok mixed_ ?_
                    conv => whnf
                    refine XSplit.mk (fun e => ?_) (fun e => ?_)
                    · replace h := XSplit.t h e
                      conv => whnf
                      refine ⟨_, Weak.a ?_, ?_, h⟩; (conv => whnf); exact ⟨rfl, rfl, rfl, rfl, rfl⟩; exact rfl
                    · replace h := XSplit.f h e
                      conv => whnf
                      refine ASeq.go tab_ok mixed_ ?_
                      conv => whnf
                      refine ASeq.joinW tab_ok mixed_ (fun v26 => ⟨[(3, .ptr 0 0), (6, .ptr 1 0), (7, .int .i64 (0)), (9, .ptr 2 0), (155, .bool (v26))], [(0, .box 47 [.int .i64 (a0), .int .i64 (a1), .int .i64 (a2), .int .i64 (a3), .int .i64 (a4), .int .i64 (a5), .int .i64 (a6), .int .i64 (a7), .int .i64 (a8), .int .i64 (a9), .int .i64 (a10), .int .i64 (a11), .sl (a12) 48 (a13), .sl (a14) 21 (a15), .int .i64 (a16), .int .i64 (a17), .int .i64 (a18), .int .i64 (a19), .int .i64 (a20), .int .i64 (a21), .int .i64 (a22), .int .i64 (a23)]), (1, .box 23 [.int .i64 (0), .int .i64 (0), .int .i64 (0)]), (2, .box 23 [.int .i64 (v19.fst), .int .i64 (v19.snd.fst), .int .i64 (v19.snd.snd.fst)])], 3, [], []⟩) h (fun Q h => ?_) (fun v26 h => ?_)
                      · conv => whnf
                        refine ACalls.inn (c_ref08_Scales (W.bindE h) (fun v27 h => ?_)) ⟨rfl, rfl⟩
                        conv => whnf
                        refine XSplit.mk (fun e => ?_) (fun e => ?_)
                        · replace h := XSplit.t h e
                          conv => whnf
                          refine ACalls.inn (c_ref02_Valid (W.bindE h) (fun v28 h => ?_)) ⟨rfl, rfl⟩
                          conv => whnf
                          refine XSplit.mk (fun e => ?_) (fun e => ?_)
                          · replace h := XSplit.t h e
                            conv => whnf
                            refine ⟨_, Weak.a ?_, h⟩; (conv => whnf); exact ⟨rfl, rfl, rfl, rfl, rfl⟩
                          · replace h := XSplit.f h e
                            conv => whnf
                            refine XSplit.mk (fun e => ?_) (fun e => ?_)
                            · replace h := XSplit.t h e
                              conv => whnf
                              refine ACalls.inn (c_ref02_Valid (W.bindE h) (fun v29 h => ?_)) ⟨rfl, rfl⟩
                              conv => whnf
                              refine ⟨_, Weak.a ?_, h⟩; (conv => whnf); exact ⟨rfl, rfl, rfl, rfl, rfl⟩
                            · replace h := XSplit.f h e
                              conv => whnf
                              refine ⟨_, Weak.a ?_, h⟩; (conv => whnf); exact ⟨rfl, rfl, rfl, rfl, rfl⟩
                        · replace h := XSplit.f h e
                          conv => whnf
                          refine XSplit.mk (fun e => ?_) (fun e => ?_)
                          · replace h := XSplit.t h e
                            conv => whnf
                            refine ACalls.inn (c_ref02_Valid (W.bindE h) (fun v30 h => ?_)) ⟨rfl, rfl⟩
                            conv => whnf
                            refine ⟨_, Weak.a ?_, h⟩; (conv => whnf); exact ⟨rfl, rfl, rfl, rfl, rfl⟩
                          · replace h := XSplit.f h e
                            conv => whnf
                            refine ⟨_, Weak.a ?_, h⟩; (conv => whnf); exact ⟨rfl, rfl, rfl, rfl, rfl⟩
                      · conv => whnf
                        refine XSplit.mk (fun e => ?_) (fun e => ?_)
                        · replace h := XSplit.t h e
                          conv => whnf
                          refine ⟨_, Weak.a ?_, ?_, h⟩; (conv => whnf); exact ⟨rfl, rfl, rfl, rfl, rfl⟩; exact rfl
                        · replace h := XSplit.f h e
                          conv => whnf
                          refine ASeq.go tab_ok mixed_ ?_
                          conv => whnf
                          refine ASeq.joinW tab_ok mixed_ (fun v31 => ⟨[(6, .ptr 0 0), (7, .int .i64 (0)), (9, .ptr 1 0), (185, .bool (v31))], [(0, .box 23 [.int .i64 (0), .int .i64 (0), .int .i64 (0)]), (1, .box 23 [.int .i64 (v19.fst), .int .i64 (v19.snd.fst), .int .i64 (v19.snd.snd.fst)])], 2, [], []⟩) h (fun Q h => ?_) (fun v31 h => ?_)
                          · conv => whnf
                            refine ACalls.inn (c_ref08_values (W.bindE h) (fun v32 h => ?_)) ⟨rfl, rfl⟩
                            conv => whnf
                            refine XSplit.mk (fun e => ?_) (fun e => ?_)
                            · replace h := XSplit.t h e
                              conv => whnf
                              refine ⟨_, Weak.a ?_, h⟩; (conv => whnf); exact ⟨rfl, rfl, rfl, rfl, rfl⟩
                            · replace h := XSplit.f h e
                              conv => whnf
                              refine ACalls.inn (c_ref08_values (W.bindE h) (fun v33 h => ?_)) ⟨rfl, rfl⟩
                              conv => whnf
                              refine XSplit.mk (fun e => ?_) (fun e => ?_)
                              · replace h := XSplit.t h e
                                conv => whnf
                                refine ⟨_, Weak.a ?_, h⟩; (conv => whnf); exact ⟨rfl, rfl, rfl, rfl, rfl⟩
                              · replace h := XSplit.f h e
                                conv => whnf
                                refine ACalls.inn (c_ref08_values (W.bindE h) (fun v34 h => ?_)) ⟨rfl, rfl⟩
                                conv => whnf
                                refine XSplit.mk (fun e => ?_) (fun e => ?_)
                                · replace h := XSplit.t h e
                                  conv => whnf
                                  refine ⟨_, Weak.a ?_, h⟩; (conv => whnf); exact ⟨rfl, rfl, rfl, rfl, rfl⟩
                                · replace h := XSplit.f h e
                                  conv => whnf
                                  refine ACalls.inn (c_ref08_values (W.bindE h) (fun v35 h => ?_)) ⟨rfl, rfl⟩
                                  conv => whnf
                                  refine ⟨_, Weak.a ?_, h⟩; (conv => whnf); exact ⟨rfl, rfl, rfl, rfl, rfl⟩
                          · conv => whnf
                            refine XSplit.mk (fun e => ?_) (fun e => ?_)
                            · replace h := XSplit.t h e
                              conv => whnf
                              refine ⟨_, Weak.a ?_, ?_, h⟩; (conv => whnf); exact ⟨rfl, rfl, rfl, rfl, rfl⟩; exact rfl
                            · replace h := XSplit.f h e
                              conv => whnf
                              refine ⟨_, Weak.a ?_, ?_, h⟩; (conv => whnf); exact ⟨rfl, rfl, rfl, rfl, rfl⟩; exact rfl

theorem c_ref08_Labour {a0 : Int} {a1 : Int} {a2 : Int} {a3 : Int} {a4 : Int} {a5 : Int} {a6 : Int} {a7 : Int} {a8 : Int} {a9 : Int} {a10 : Int} {a11 : Int} {a12 : Bool} {a13 : Rws} {a14 : Bool} {a15 : Rws} {a16 : Int} {a17 : Int} {a18 : Int} {a19 : Int} {a20 : Int} {a21 : Int} {a22 : Int} {a23 : Int} {a24 : Int} {a25 : Int} {a26 : Int} {a27 : Int} {a28 : Int} {a29 : Int} {Q : Int → Prop} {R : AV → List AB → Prop} (h : (g_ref08_Labour a0 a1 a2 a3 a4 a5 a6 a7 a8 a9 a10 a11 a12 a13 a14 a15 a16 a17 a18 a19 a20 a21 a22 a23 a24 a25 a26 a27 a28 a29).run Q) (k : ∀ r, Q r → R (.int .i64 (r)) ([])) : ACalls Try.prog tab 57 [.agg [.int .i64 (a0), .int .i64 (a1), .int .i64 (a2), .int .i64 (a3), .int .i64 (a4), .int .i64 (a5), .int .i64 (a6), .int .i64 (a7), .int .i64 (a8), .int .i64 (a9), .int .i64 (a10), .int .i64 (a11), .sl (a12) 48 (a13), .sl (a14) 21 (a15), .int .i64 (a16), .int .i64 (a17), .int .i64 (a18), .int .i64 (a19), .int .i64 (a20), .int .i64 (a21), .int .i64 (a22), .int .i64 (a23)], .agg [.int .i64 (a24), .int .i64 (a25), .int .i64 (a26)], .agg [.int .i64 (a27), .int .i64 (a28), .int .i64 (a29)]] [] R := by
  refine ACalls.out (fun r => .int .i64 (r)) (fun r => []) (Q := Q) (ACalls.introX (mv := mv) tab_ok mixed_ (fn := Try.f57) (by kernel_rfl) rfl (by kernel_rfl) (by kernel_rfl) (Nat.le_of_ble_eq_true rfl) ?_) (fun v => by first | exact ⟨rfl, Nat.le_of_ble_eq_true rfl⟩ | (cases v <;> exact ⟨rfl, Nat.le_of_ble_eq_true rfl⟩)) k
  conv => whnf
  refine ASeq.go tab_ok mixed_ ?_
  conv => whnf
  refine ACalls.inn (c_ref08_Reduces (W.bindE h) (fun v2 h => ?_)) ⟨rfl, rfl⟩
  conv => whnf
  refine XSplit.mk (fun e => ?_) (fun e => ?_)
  · replace h := XSplit.t h e
    conv => whnf
    refine ACalls.inn (c_ref08_Length (W.bindE h) (fun v3 h => ?_)) ⟨rfl, rfl⟩
    conv => whnf
    refine ⟨_, Weak.a ?_, ?_, h⟩; (conv => whnf); exact ⟨rfl, rfl, rfl, rfl, rfl⟩; exact rfl
  · replace h := XSplit.f h e
    conv => whnf
    refine ASeq.go tab_ok mixed_ ?_
    conv => whnf
    refine XSplit.mk (fun e => ?_) (fun e => ?_)
    · replace h := XSplit.t h e
      conv => whnf
      refine ⟨_, Weak.a ?_, ?_, h⟩; (conv => whnf); exact ⟨rfl, rfl, rfl, rfl, rfl⟩; exact rfl
    · replace h := XSplit.f h e
      conv => whnf
      refine ⟨_, Weak.a ?_, ?_, h⟩; (conv => whnf); exact ⟨rfl, rfl, rfl, rfl, rfl⟩; exact rfl

theorem c_ref08_Look {a0 : Int} {a1 : Int} {a2 : Int} {a3 : Int} {a4 : Int} {a5 : Bool} {a6 : Rws} {a7 : Int} {Q : Int × Int × Int × Int × Bool × Rws → Prop} {R : AV → List AB → Prop} (h : (g_ref08_Look a0 a1 a2 a3 a4 a5 a6 a7).run Q) (k : ∀ r, Q r → R (.tup [.own 0, .int .i64 (r.fst), .agg [.int .i64 (r.snd.fst), .int .i64 (r.snd.snd.fst), .int .i64 (r.snd.snd.snd.fst)]]) ([.arr true 23 (r.snd.snd.snd.snd.fst) (r.snd.snd.snd.snd.snd)])) : ACalls Try.prog tab 34 [.agg [.int .i64 (a0), .int .i64 (a1), .int .i64 (a2), .int .i64 (a3), .int .i64 (a4), .sl (a5) 47 (a6), .int .i64 (a7)]] [] R := by
  refine ACalls.out (fun r => .tup [.own 0, .int .i64 (r.fst), .agg [.int .i64 (r.snd.fst), .int .i64 (r.snd.snd.fst), .int .i64 (r.snd.snd.snd.fst)]]) (fun r => [.arr true 23 (r.snd.snd.snd.snd.fst) (r.snd.snd.snd.snd.snd)]) (Q := Q) (ACalls.introX (mv := mv) tab_ok mixed_ (fn := Try.f34) (by kernel_rfl) rfl (by kernel_rfl) (by kernel_rfl) (Nat.le_of_ble_eq_true rfl) ?_) (fun v => by first | exact ⟨rfl, Nat.le_of_ble_eq_true rfl⟩ | (cases v <;> exact ⟨rfl, Nat.le_of_ble_eq_true rfl⟩)) k
  conv => whnf
  refine ASeq.joinW tab_ok mixed_ (fun v10 => ⟨[(1, .ptr 0 0), (2, .nils), (3, .int .i64 (0)), (4, .ptr 1 0), (5, .int .i64 (v10))], [(0, .box 26 [.int .i64 (a0), .int .i64 (a1), .int .i64 (a2), .int .i64 (a3), .int .i64 (a4), .sl (a5) 47 (a6), .int .i64 (a7)]), (1, .box 31 [.int .i64 (0), .int .i64 (0), .int .i64 (0)])], 2, [], []⟩) h (fun Q h => ?_) (fun v10 h => ?_)
  · conv => whnf
    refine ACalls.inn (c_ref05_Valid (W.bindE h) (fun v11 h => ?_)) ⟨rfl, rfl⟩
    conv => whnf
    refine XSplit.mk (fun e => ?_) (fun e => ?_)
    · replace h := XSplit.t h e
      conv => whnf
      refine ⟨_, Weak.a ?_, h⟩; (conv => whnf); exact ⟨rfl, rfl, rfl, rfl, rfl⟩
    · replace h := XSplit.f h e
      conv => whnf
      refine ASeq.joinW tab_ok mixed_ (fun v12 => ⟨[(1, .ptr 0 0), (2, .nils), (3, .int .i64 (0)), (4, .ptr 1 0), (5, .int .i64 (0)), (32, .bool (v12))], [(0, .box 26 [.int .i64 (a0), .int .i64 (a1), .int .i64 (a2), .int .i64 (a3), .int .i64 (a4), .sl (a5) 47 (a6), .int .i64 (a7)]), (1, .box 31 [.int .i64 (0), .int .i64 (0), .int .i64 (0)])], 2, [], []⟩) h (fun Q h => ?_) (fun v12 h => ?_)
      · conv => whnf
        refine ACalls.inn (c_ref08_values (W.bindE h) (fun v13 h => ?_)) ⟨rfl, rfl⟩
        conv => whnf
        refine XSplit.mk (fun e => ?_) (fun e => ?_)
        · replace h := XSplit.t h e
          conv => whnf
          refine ⟨_, Weak.a ?_, h⟩; (conv => whnf); exact ⟨rfl, rfl, rfl, rfl, rfl⟩
        · replace h := XSplit.f h e
          conv => whnf
          refine ACalls.inn (c_ref08_values (W.bindE h) (fun v14 h => ?_)) ⟨rfl, rfl⟩
          conv => whnf
          refine ⟨_, Weak.a ?_, h⟩; (conv => whnf); exact ⟨rfl, rfl, rfl, rfl, rfl⟩
      · conv => whnf
        refine XSplit.mk (fun e => ?_) (fun e => ?_)
        · replace h := XSplit.t h e
          conv => whnf
          refine ⟨_, Weak.a ?_, h⟩; (conv => whnf); exact ⟨rfl, rfl, rfl, rfl, rfl⟩
        · replace h := XSplit.f h e
          conv => whnf
          refine XSplit.mk (fun e => ?_) (fun e => ?_)
          · replace h := XSplit.t h e
            conv => whnf
            refine ⟨_, Weak.a ?_, h⟩; (conv => whnf); exact ⟨rfl, rfl, rfl, rfl, rfl⟩
          · replace h := XSplit.f h e
            conv => whnf
            refine XSplit.mk (fun e => ?_) (fun e => ?_)
            · replace h := XSplit.t h e
              conv => whnf
              refine ⟨_, Weak.a ?_, h⟩; (conv => whnf); exact ⟨rfl, rfl, rfl, rfl, rfl⟩
            · replace h := XSplit.f h e
              conv => whnf
              refine ⟨_, Weak.a ?_, h⟩; (conv => whnf); exact ⟨rfl, rfl, rfl, rfl, rfl⟩
  · conv => whnf
    refine ASeq.go tab_ok mixed_ ?_
    conv => whnf
    refine XSplit.mk (fun e => ?_) (fun e => ?_)
    · replace h := XSplit.t h e
      conv => whnf
      refine ⟨_, Weak.a ?_, ?_, h⟩; (conv => whnf); exact ⟨rfl, rfl, rfl, rfl, rfl⟩; exact rfl
    · replace h := XSplit.f h e
      conv => whnf
      refine ASeq.go tab_ok mixed_ ?_
      conv => whnf
      refine ALoop.ofW tab_ok mixed_ (fun v15 => ⟨[(2, .nils), (3, .int .i64 (0)), (4, .ptr 0 0), (6, .own 1), (7, .int .i64 (v15.fst)), (56, .sl (a5) 47 (a6)), (57, .int .i64 ((↑(List.length a6) : Int))), (58, .int .i64 (v15.snd.fst))], [(0, .box 31 [.int .i64 (0), .int .i64 (0), .int .i64 (0)]), (1, .arr true 23 (false) (v15.snd.snd))], 2, [], []⟩) (sx (fun v16 => (.ret, ⟨[(2, .nils), (3, .int .i64 (0)), (4, .ptr 0 0), (6, .own 1), (7, .int .i64 (v16.fst))], [(0, .box 31 [.int .i64 (v16.snd.fst), .int .i64 (v16.snd.snd.fst), .int .i64 (0)]), (1, .arr true 23 (false) (v16.snd.snd.snd))], 2, [], []⟩)) (fun v17 => (.exit 0, ⟨[(2, .nils), (3, .int .i64 (0)), (4, .ptr 0 0), (6, .own 1), (7, .int .i64 (v17.fst))], [(0, .box 31 [.int .i64 (0), .int .i64 (0), .int .i64 (0)]), (1, .arr true 23 (false) (v17.snd))], 2, [], []⟩))) (W.bindE h) (Weak.a ?_) (fun v15 I Q h => ?_) (fun v h => ?_)
      · conv => whnf
        exact ⟨rfl, rfl, rfl, rfl, rfl⟩
      · conv => whnf
        refine ASeq.go tab_ok mixed_ ?_
        conv => whnf
        refine XSplit.mk (fun e => ?_) (fun e => ?_)
        · replace h := XSplit.t h e
          conv => whnf
          refine ASeq.go tab_ok mixed_ ?_
          conv => whnf
          refine XNeed.mk (XNeed.c h) ?_; replace h := XNeed.x h
          conv => whnf
          refine ACalls.inn (c_ref08_one (W.bindE h) (fun v18 h => ?_)) ⟨rfl, rfl⟩
          conv => whnf
          refine ASeq.go tab_ok mixed_ ?_
          conv => whnf
          refine XSplit.mk (fun e => ?_) (fun e => ?_)
          · replace h := XSplit.t h e
            conv => whnf
            refine ⟨_, ?_, Weak.a ?_, h⟩; exact rfl; (conv => whnf); exact ⟨rfl, rfl, rfl, rfl, rfl⟩
          · replace h := XSplit.f h e
            conv => whnf
            refine XDraw.d [0, 1, 2, 3, 4, 5, 6, 7, 8, 9, 10] [[], [], [], [], [], [], [], [], [4], [], []] (by decide +kernel) ?_
            conv => whnf
            refine XNeed.mk (XNeed.c h) ?_; replace h := XNeed.x h
            conv => whnf
            refine ACalls.inn (c_ref08_Labour (W.bindE h) (fun v19 h => ?_)) ⟨rfl, rfl⟩
            conv => whnf
            refine ASeq.go tab_ok mixed_ ?_
            conv => whnf
            refine XSplit.mk (fun e => ?_) (fun e => ?_)
            · replace h := XSplit.t h e
              conv => whnf
              refine ⟨_, ?_, Weak.a ?_, h⟩; exact rfl; (conv => whnf); exact ⟨rfl, rfl, rfl, rfl, rfl⟩
            · replace h := XSplit.f h e
              conv => whnf
              refine XNeed.mk (XNeed.c h) ?_; replace h := XNeed.x h
              conv => whnf
              refine ⟨_, Weak.a ?_, h⟩; (conv => whnf); exact ⟨rfl, rfl, rfl, rfl, rfl⟩
        · replace h := XSplit.f h e
          conv => whnf
          refine ⟨_, ?_, Weak.a ?_, h⟩; exact rfl; (conv => whnf); exact ⟨rfl, rfl, rfl, rfl, rfl⟩
      · rcases v with v16 | v17
        · conv => whnf
          refine ⟨_, Weak.a ?_, ?_, h⟩; (conv => whnf); exact ⟨rfl, rfl, rfl, rfl, rfl⟩; exact rfl
        · conv => whnf
          refine ⟨_, Weak.a ?_, ?_, h⟩; (conv => whnf); exact ⟨rfl, rfl, rfl, rfl, rfl⟩; exact rfl

theorem c_ref08_Check {a0 : Int} {a1 : Int} {a2 : Int} {a3 : Int} {a4 : Int} {a5 : Bool} {a6 : Rws} {a7 : Int} {Q : Int × Int × Int → Prop} {R : AV → List AB → Prop} (h : (g_ref08_Check a0 a1 a2 a3 a4 a5 a6 a7).run Q) (k : ∀ r, Q r → R (.agg [.int .i64 (r.fst), .int .i64 (r.snd.fst), .int .i64 (r.snd.snd)]) ([])) : ACalls Try.prog tab 24 [.agg [.int .i64 (a0), .int .i64 (a1), .int .i64 (a2), .int .i64 (a3), .int .i64 (a4), .sl (a5) 47 (a6), .int .i64 (a7)]] [] R := by
  refine ACalls.out (fun r => .agg [.int .i64 (r.fst), .int .i64 (r.snd.fst), .int .i64 (r.snd.snd)]) (fun r => []) (Q := Q) (ACalls.introX (mv := mv) tab_ok mixed_ (fn := Try.f24) (by kernel_rfl) rfl (by kernel_rfl) (by kernel_rfl) (Nat.le_of_ble_eq_true rfl) ?_) (fun v => by first | exact ⟨rfl, Nat.le_of_ble_eq_true rfl⟩ | (cases v <;> exact ⟨rfl, Nat.le_of_ble_eq_true rfl⟩)) k
  conv => whnf
  refine ACalls.inn (c_ref08_Look (W.bindE h) (fun v1 h => ?_)) ⟨rfl, rfl⟩
  conv => whnf
  refine ⟨_, Weak.a ?_, ?_, h⟩; (conv => whnf); exact ⟨rfl, rfl, rfl, rfl, rfl⟩; exact rfl

theorem c_ref24_needs {a0 : Int} {a1 : Int} {a2 : Int} {a3 : Int} {a4 : Int} {a5 : Bool} {a6 : Rws} {a7 : Int} {a8 : Int} {a9 : Int} {Q : Bool → Prop} {R : AV → List AB → Prop} (h : (g_ref24_needs a0 a1 a2 a3 a4 a5 a6 a7 a8 a9).run Q) (k : ∀ r, Q r → R (.bool (r)) ([])) : ACalls Try.prog tab 25 [.agg [.int .i64 (a0), .int .i64 (a1), .int .i64 (a2), .int .i64 (a3), .int .i64 (a4), .sl (a5) 47 (a6), .int .i64 (a7)], .int .i64 (a8), .int .i64 (a9)] [] R := by
  refine ACalls.out (fun r => .bool (r)) (fun r => []) (Q := Q) (ACalls.introX (mv := mv) tab_ok mixed_ (fn := Try.f25) (by kernel_rfl) rfl (by kernel_rfl) (by kernel_rfl) (Nat.le_of_ble_eq_true rfl) ?_) (fun v => by first | exact ⟨rfl, Nat.le_of_ble_eq_true rfl⟩ | (cases v <;> exact ⟨rfl, Nat.le_of_ble_eq_true rfl⟩)) k
  conv => whnf
  refine XNeed.mk (XNeed.c h) ?_; replace h := XNeed.x h
  conv => whnf
  refine XNeed.mk (XNeed.c h) ?_; replace h := XNeed.x h
  conv => whnf
  refine ASeq.go tab_ok mixed_ ?_
  conv => whnf
  refine ALoop.ofW tab_ok mixed_ (fun v3 => ⟨[(1, .int .i64 (a8)), (3, .ptr 0 0), (6, .kb false), (7, .own 1), (8, .int .i64 (v3.fst))], [(0, .box 26 [.int .i64 (a0), .int .i64 (a1), .int .i64 (a2), .int .i64 (a3), .int .i64 (a4), .sl (a5) 47 (a6), .int .i64 (a7)]), (1, .arr true 4 (false) (v3.snd))], 2, [], []⟩) (fun v4 => (.exit 0, ⟨[(1, .int .i64 (a8)), (6, .kb false), (7, .own 0)], [(0, .arr true 4 (false) (v4))], 1, [], []⟩)) (W.bindE h) (Weak.a ?_) (fun v3 I Q h => ?_) (fun v4 h => ?_)
  · conv => whnf
    exact ⟨rfl, rfl, rfl, rfl, rfl⟩
  · conv => whnf
    refine ASeq.go tab_ok mixed_ ?_
    conv => whnf
    refine XSplit.mk (fun e => ?_) (fun e => ?_)
    · replace h := XSplit.t h e
      conv => whnf
      refine ASeq.joinW tab_ok mixed_ (fun v5 => ⟨[(1, .int .i64 (a8)), (3, .ptr 0 0), (6, .kb false), (7, .own 1), (8, .int .i64 (v3.fst)), (21, .int .i64 (v3.fst)), (22, .bool (decide (0 < v3.fst))), (25, .own 1), (26, .int .i64 (v3.fst)), (27, .elt 1 (v3.fst.toNat) 0), (28, .bool (rb v3.snd v3.fst.toNat 0))], [(0, .box 26 [.int .i64 (a0), .int .i64 (a1), .int .i64 (a2), .int .i64 (a3), .int .i64 (a4), .sl (a5) 47 (a6), .int .i64 (a7)]), (1, .arr true 4 (false) (v5))], 2, [], []⟩) h (fun Q h => ?_) (fun v5 h => ?_)
      · conv => whnf
        refine XNeed.mk (XNeed.c h) ?_; replace h := XNeed.x h
        conv => whnf
        refine XSplit.mk (fun e => ?_) (fun e => ?_)
        · replace h := XSplit.t h e
          conv => whnf
          refine XNeed.mk (XNeed.c h) ?_; replace h := XNeed.x h
          conv => whnf
          refine XNeed.mk (XNeed.c h) ?_; replace h := XNeed.x h
          conv => whnf
          refine XSplit.mk (fun e => ?_) (fun e => ?_)
          · replace h := XSplit.t h e
            conv => whnf
            refine XNeed.mk (XNeed.c h) ?_; replace h := XNeed.x h
            conv => whnf
            refine ⟨_, Weak.a ?_, h⟩; (conv => whnf); exact ⟨rfl, rfl, rfl, rfl, rfl⟩
          · replace h := XSplit.f h e
            conv => whnf
            refine ⟨_, Weak.a ?_, h⟩; (conv => whnf); exact ⟨rfl, rfl, rfl, rfl, rfl⟩
        · replace h := XSplit.f h e
          conv => whnf
          refine ⟨_, Weak.a ?_, h⟩; (conv => whnf); exact ⟨rfl, rfl, rfl, rfl, rfl⟩
      · conv => whnf
        refine ⟨_, Weak.a ?_, h⟩; (conv => whnf); exact ⟨rfl, rfl, rfl, rfl, rfl⟩
    · replace h := XSplit.f h e
      conv => whnf
      refine ⟨_, ?_, Weak.a ?_, h⟩; exact rfl; (conv => whnf); exact ⟨rfl, rfl, rfl, rfl, rfl⟩
  · conv => whnf
    refine XNeed.mk (XNeed.c h) ?_; replace h := XNeed.x h
    conv => whnf
    refine ⟨_, Weak.a ?_, ?_, h⟩; (conv => whnf); exact ⟨rfl, rfl, rfl, rfl, rfl⟩; exact rfl

theorem c_ref24_Live {a0 : Int} {a1 : Int} {a2 : Int} {a3 : Int} {a4 : Int} {a5 : Bool} {a6 : Rws} {a7 : Int} {Q : Int × Int × Int × Bool × Rws → Prop} {R : AV → List AB → Prop} (h : (g_ref24_Live a0 a1 a2 a3 a4 a5 a6 a7).run Q) (k : ∀ r, Q r → R (.tup [.own 0, .agg [.int .i64 (r.fst), .int .i64 (r.snd.fst), .int .i64 (r.snd.snd.fst)]]) ([.arr true 4 (r.snd.snd.snd.fst) (r.snd.snd.snd.snd)])) : ACalls Try.prog tab 11 [.agg [.int .i64 (a0), .int .i64 (a1), .int .i64 (a2), .int .i64 (a3), .int .i64 (a4), .sl (a5) 47 (a6), .int .i64 (a7)]] [] R := by
  refine ACalls.out (fun r => .tup [.own 0, .agg [.int .i64 (r.fst), .int .i64 (r.snd.fst), .int .i64 (r.snd.snd.fst)]]) (fun r => [.arr true 4 (r.snd.snd.snd.fst) (r.snd.snd.snd.snd)]) (Q := Q) (ACalls.introX (mv := mv) tab_ok mixed_ (fn := Try.f11) (by kernel_rfl) rfl (by kernel_rfl) (by kernel_rfl) (Nat.le_of_ble_eq_true rfl) ?_) (fun v => by first | exact ⟨rfl, Nat.le_of_ble_eq_true rfl⟩ | (cases v <;> exact ⟨rfl, Nat.le_of_ble_eq_true rfl⟩)) k
  conv => whnf
  refine ACalls.inn (c_ref08_Check (W.bindE h) (fun v4 h => ?_)) ⟨rfl, rfl⟩
  conv => whnf
  refine ASeq.go tab_ok mixed_ ?_
  conv => whnf
  refine XSplit.mk (fun e => ?_) (fun e => ?_)
  · replace h := XSplit.t h e
    conv => whnf
    refine XDraw.d [0, 1, 2] [[], [], [1]] (by decide +kernel) ?_
    conv => whnf
    refine ⟨_, Weak.a ?_, ?_, h⟩; (conv => whnf); exact ⟨rfl, rfl, rfl, rfl, rfl⟩; exact rfl
  · replace h := XSplit.f h e
    conv => whnf
    refine ASeq.go tab_ok mixed_ ?_
    conv => whnf
    refine ALoop.ofW tab_ok mixed_ (fun v5 => ⟨[(1, .ptr 0 0), (2, .nils), (3, .ptr 1 0), (5, .own 2), (6, .int .i64 (v5.fst))], [(0, .box 26 [.int .i64 (a0), .int .i64 (a1), .int .i64 (a2), .int .i64 (a3), .int .i64 (a4), .sl (a5) 47 (a6), .int .i64 (a7)]), (1, .box 31 [.int .i64 (0), .int .i64 (0), .int .i64 (0)]), (2, .arr true 4 (v5.snd.fst) (v5.snd.snd))], 3, [], []⟩) (fun v6 => (.exit 0, ⟨[(2, .nils), (3, .ptr 0 0), (5, .own 1)], [(0, .box 31 [.int .i64 (0), .int .i64 (0), .int .i64 (0)]), (1, .arr true 4 (v6.fst) (v6.snd))], 2, [], []⟩)) (W.bindE h) (Weak.a ?_) (fun v5 I Q h => ?_) (fun v6 h => ?_)
    · conv => whnf
      exact ⟨rfl, rfl, rfl, rfl, rfl⟩
    · conv => whnf
      refine ASeq.go tab_ok mixed_ ?_
      conv => whnf
      refine XSplit.mk (fun e => ?_) (fun e => ?_)
      · replace h := XSplit.t h e
        conv => whnf
        refine ASeq.go tab_ok mixed_ ?_
        conv => whnf
        refine ACalls.inn (c_ref24_needs (W.bindE h) (fun v7 h => ?_)) ⟨rfl, rfl⟩
        conv => whnf
        refine XNeed.mk (XNeed.c h) ?_; replace h := XNeed.x h
        conv => whnf
        refine ⟨_, Weak.a ?_, h⟩; (conv => whnf); exact ⟨rfl, rfl, rfl, rfl, rfl⟩
      · replace h := XSplit.f h e
        conv => whnf
        refine ⟨_, ?_, Weak.a ?_, h⟩; exact rfl; (conv => whnf); exact ⟨rfl, rfl, rfl, rfl, rfl⟩
    · conv => whnf
      refine ⟨_, Weak.a ?_, ?_, h⟩; (conv => whnf); exact ⟨rfl, rfl, rfl, rfl, rfl⟩; exact rfl

theorem c_ref24_Trim {a0 : Int} {a1 : Int} {a2 : Int} {a3 : Int} {a4 : Int} {a5 : Bool} {a6 : Rws} {a7 : Int} {Q : Int × Int × Int × Int × Int × Int × Int × Int × Int × Bool × Rws → Prop} {R : AV → List AB → Prop} (h : (g_ref24_Trim a0 a1 a2 a3 a4 a5 a6 a7).run Q) (k : ∀ r, Q r → R (.tup [.agg [.int .i64 (r.fst), .int .i64 (r.snd.fst), .int .i64 (r.snd.snd.fst), .int .i64 (r.snd.snd.snd.fst), .int .i64 (r.snd.snd.snd.snd.fst), .own 0, .int .i64 (r.snd.snd.snd.snd.snd.fst)], .agg [.int .i64 (r.snd.snd.snd.snd.snd.snd.fst), .int .i64 (r.snd.snd.snd.snd.snd.snd.snd.fst), .int .i64 (r.snd.snd.snd.snd.snd.snd.snd.snd.fst)]]) ([.arr true 47 (r.snd.snd.snd.snd.snd.snd.snd.snd.snd.fst) (r.snd.snd.snd.snd.snd.snd.snd.snd.snd.snd)])) : ACalls Try.prog tab 12 [.agg [.int .i64 (a0), .int .i64 (a1), .int .i64 (a2), .int .i64 (a3), .int .i64 (a4), .sl (a5) 47 (a6), .int .i64 (a7)]] [] R := by
  refine ACalls.out (fun r => .tup [.agg [.int .i64 (r.fst), .int .i64 (r.snd.fst), .int .i64 (r.snd.snd.fst), .int .i64 (r.snd.snd.snd.fst), .int .i64 (r.snd.snd.snd.snd.fst), .own 0, .int .i64 (r.snd.snd.snd.snd.snd.fst)], .agg [.int .i64 (r.snd.snd.snd.snd.snd.snd.fst), .int .i64 (r.snd.snd.snd.snd.snd.snd.snd.fst), .int .i64 (r.snd.snd.snd.snd.snd.snd.snd.snd.fst)]]) (fun r => [.arr true 47 (r.snd.snd.snd.snd.snd.snd.snd.snd.snd.fst) (r.snd.snd.snd.snd.snd.snd.snd.snd.snd.snd)]) (Q := Q) (ACalls.introX (mv := mv) tab_ok mixed_ (fn := Try.f12) (by kernel_rfl) rfl (by kernel_rfl) (by kernel_rfl) (Nat.le_of_ble_eq_true rfl) ?_) (fun v => by first | exact ⟨rfl, Nat.le_of_ble_eq_true rfl⟩ | (cases v <;> exact ⟨rfl, Nat.le_of_ble_eq_true rfl⟩)) k
  conv => whnf
  refine ACalls.inn (c_ref24_Live (W.bindE h) (fun v6 h => ?_)) ⟨rfl, rfl⟩
  conv => whnf
  refine ASeq.go tab_ok mixed_ ?_
  conv => whnf
  refine XSplit.mk (fun e => ?_) (fun e => ?_)
  · replace h := XSplit.t h e
    conv => whnf
    refine XDraw.d [0, 1, 2, 3] [[], [], [1], [2]] (by decide +kernel) ?_
    conv => whnf
    refine ⟨_, Weak.a ?_, ?_, h⟩; (conv => whnf); exact ⟨rfl, rfl, rfl, rfl, rfl⟩; exact rfl
  · replace h := XSplit.f h e
    conv => whnf
    refine ACalls.inn (c_ref08_Copy (W.bindE h) (fun v7 h => ?_)) ⟨rfl, rfl⟩
    conv => whnf
    refine XNeed.mk (XNeed.c h) ?_; replace h := XNeed.x h
    conv => whnf
    refine ASeq.go tab_ok mixed_ ?_
    conv => whnf
    refine ALoop.ofW tab_ok mixed_ (fun v8 => ⟨[(1, .ptr 0 0), (2, .ptr 1 0), (3, .ptr 2 0), (4, .own 3), (6, .ptr 4 0), (7, .own 5), (8, .own 6), (27, .own 7), (28, .int .i64 ((↑(List.length v7.snd.snd.snd.snd.snd.snd.snd) : Int))), (29, .int .i64 (v8.fst))], [(0, .box 26 [.int .i64 (a0), .int .i64 (a1), .int .i64 (a2), .int .i64 (a3), .int .i64 (a4), .sl (a5) 47 (a6), .int .i64 (a7)]), (1, .box 26 [.int .i64 (0), .int .i64 (0), .int .i64 (0), .int .i64 (0), .int .i64 (0), .nils, .int .i64 (0)]), (2, .box 31 [.int .i64 (0), .int .i64 (0), .int .i64 (0)]), (3, .arr true 4 (v6.snd.snd.snd.fst) (v6.snd.snd.snd.snd)), (4, .box 26 [.int .i64 (v7.fst), .int .i64 (v7.snd.fst), .int .i64 (v7.snd.snd.fst), .int .i64 (v7.snd.snd.snd.fst), .int .i64 (v7.snd.snd.snd.snd.fst), .own 7, .int .i64 (v7.snd.snd.snd.snd.snd.fst)]), (5, .arr true 3 (false) (v8.snd.fst)), (6, .arr true 47 (v8.snd.snd.fst) (v8.snd.snd.snd)), (7, .arr true 47 (v7.snd.snd.snd.snd.snd.snd.fst) (v7.snd.snd.snd.snd.snd.snd.snd))], 8, [], []⟩) (fun v9 => (.exit 0, ⟨[(1, .ptr 0 0), (2, .ptr 1 0), (3, .ptr 2 0), (6, .ptr 3 0), (7, .own 4), (8, .own 5)], [(0, .box 26 [.int .i64 (a0), .int .i64 (a1), .int .i64 (a2), .int .i64 (a3), .int .i64 (a4), .sl (a5) 47 (a6), .int .i64 (a7)]), (1, .box 26 [.int .i64 (0), .int .i64 (0), .int .i64 (0), .int .i64 (0), .int .i64 (0), .nils, .int .i64 (0)]), (2, .box 31 [.int .i64 (0), .int .i64 (0), .int .i64 (0)]), (3, .box 26 [.int .i64 (v7.fst), .int .i64 (v7.snd.fst), .int .i64 (v7.snd.snd.fst), .int .i64 (v7.snd.snd.snd.fst), .int .i64 (v7.snd.snd.snd.snd.fst), .own 6, .int .i64 (v7.snd.snd.snd.snd.snd.fst)]), (4, .arr true 3 (false) (v9.fst)), (5, .arr true 47 (v9.snd.fst) (v9.snd.snd)), (6, .arr true 47 (v7.snd.snd.snd.snd.snd.snd.fst) (v7.snd.snd.snd.snd.snd.snd.snd))], 7, [], []⟩)) (W.bindE h) (Weak.a ?_) (fun v8 I Q h => ?_) (fun v9 h => ?_)
    · conv => whnf
      exact ⟨rfl, rfl, rfl, rfl, rfl⟩
    · conv => whnf
      refine ASeq.go tab_ok mixed_ ?_
      conv => whnf
      refine XSplit.mk (fun e => ?_) (fun e => ?_)
      · replace h := XSplit.t h e
        conv => whnf
        refine ASeq.joinW tab_ok mixed_ (fun v10 => ⟨[(1, .ptr 0 0), (2, .ptr 1 0), (3, .ptr 2 0), (4, .own 3), (6, .ptr 4 0), (7, .own 5), (8, .own 6), (9, .int .i64 (v8.fst)), (10, .ptr 7 0), (27, .own 8), (28, .int .i64 ((↑(List.length v7.snd.snd.snd.snd.snd.snd.snd) : Int))), (29, .int .i64 (v8.fst)), (30, .bool (decide (v8.fst < (↑(List.length v7.snd.snd.snd.snd.snd.snd.snd) : Int)))), (31, .int .i64 (v8.fst)), (32, .elt 8 (v8.fst.toNat) 0), (33, .agg [.int .i64 (ri v7.snd.snd.snd.snd.snd.snd.snd v8.fst.toNat 0), .int .i64 (ri v7.snd.snd.snd.snd.snd.snd.snd v8.fst.toNat 1), .int .i64 (ri v7.snd.snd.snd.snd.snd.snd.snd v8.fst.toNat 2), .int .i64 (ri v7.snd.snd.snd.snd.snd.snd.snd v8.fst.toNat 3), .int .i64 (ri v7.snd.snd.snd.snd.snd.snd.snd v8.fst.toNat 4), .int .i64 (ri v7.snd.snd.snd.snd.snd.snd.snd v8.fst.toNat 5), .int .i64 (ri v7.snd.snd.snd.snd.snd.snd.snd v8.fst.toNat 6), .int .i64 (ri v7.snd.snd.snd.snd.snd.snd.snd v8.fst.toNat 7), .int .i64 (ri v7.snd.snd.snd.snd.snd.snd.snd v8.fst.toNat 8), .int .i64 (ri v7.snd.snd.snd.snd.snd.snd.snd v8.fst.toNat 9), .int .i64 (ri v7.snd.snd.snd.snd.snd.snd.snd v8.fst.toNat 10), .int .i64 (ri v7.snd.snd.snd.snd.snd.snd.snd v8.fst.toNat 11), .sl (rn v7.snd.snd.snd.snd.snd.snd.snd v8.fst.toNat 12) 48 (rr v7.snd.snd.snd.snd.snd.snd.snd v8.fst.toNat 12), .sl (rn v7.snd.snd.snd.snd.snd.snd.snd v8.fst.toNat 13) 21 (rr v7.snd.snd.snd.snd.snd.snd.snd v8.fst.toNat 13), .int .i64 (ri v7.snd.snd.snd.snd.snd.snd.snd v8.fst.toNat 14), .int .i64 (ri v7.snd.snd.snd.snd.snd.snd.snd v8.fst.toNat 15), .int .i64 (ri v7.snd.snd.snd.snd.snd.snd.snd v8.fst.toNat 16), .int .i64 (ri v7.snd.snd.snd.snd.snd.snd.snd v8.fst.toNat 17), .int .i64 (ri v7.snd.snd.snd.snd.snd.snd.snd v8.fst.toNat 18), .int .i64 (ri v7.snd.snd.snd.snd.snd.snd.snd v8.fst.toNat 19), .int .i64 (ri v7.snd.snd.snd.snd.snd.snd.snd v8.fst.toNat 20), .int .i64 (ri v7.snd.snd.snd.snd.snd.snd.snd v8.fst.toNat 21)]), (34, .own 3), (35, .int .i64 (v8.fst)), (36, .int .i64 (IntKind.i64.wrap (v8.fst + 1))), (37, .elt 3 ((IntKind.i64.wrap (v8.fst + 1)).toNat) 0), (38, .bool (rb v6.snd.snd.snd.snd (IntKind.i64.wrap (v8.fst + 1)).toNat 0)), (39, .bool (!rb v6.snd.snd.snd.snd (IntKind.i64.wrap (v8.fst + 1)).toNat 0))], [(0, .box 26 [.int .i64 (a0), .int .i64 (a1), .int .i64 (a2), .int .i64 (a3), .int .i64 (a4), .sl (a5) 47 (a6), .int .i64 (a7)]), (1, .box 26 [.int .i64 (0), .int .i64 (0), .int .i64 (0), .int .i64 (0), .int .i64 (0), .nils, .int .i64 (0)]), (2, .box 31 [.int .i64 (0), .int .i64 (0), .int .i64 (0)]), (3, .arr true 4 (v6.snd.snd.snd.fst) (v6.snd.snd.snd.snd)), (4, .box 26 [.int .i64 (v7.fst), .int .i64 (v7.snd.fst), .int .i64 (v7.snd.snd.fst), .int .i64 (v7.snd.snd.snd.fst), .int .i64 (v7.snd.snd.snd.snd.fst), .own 8, .int .i64 (v7.snd.snd.snd.snd.snd.fst)]), (5, .arr true 3 (false) (v10.fst)), (6, .arr true 47 (v10.snd.fst) (v10.snd.snd.fst)), (7, .box 47 [.int .i64 (ri v7.snd.snd.snd.snd.snd.snd.snd v8.fst.toNat 0), .int .i64 (v10.snd.snd.snd.fst), .int .i64 (v10.snd.snd.snd.snd), .int .i64 (ri v7.snd.snd.snd.snd.snd.snd.snd v8.fst.toNat 3), .int .i64 (ri v7.snd.snd.snd.snd.snd.snd.snd v8.fst.toNat 4), .int .i64 (ri v7.snd.snd.snd.snd.snd.snd.snd v8.fst.toNat 5), .int .i64 (ri v7.snd.snd.snd.snd.snd.snd.snd v8.fst.toNat 6), .int .i64 (ri v7.snd.snd.snd.snd.snd.snd.snd v8.fst.toNat 7), .int .i64 (ri v7.snd.snd.snd.snd.snd.snd.snd v8.fst.toNat 8), .int .i64 (ri v7.snd.snd.snd.snd.snd.snd.snd v8.fst.toNat 9), .int .i64 (ri v7.snd.snd.snd.snd.snd.snd.snd v8.fst.toNat 10), .int .i64 (ri v7.snd.snd.snd.snd.snd.snd.snd v8.fst.toNat 11), .sl (rn v7.snd.snd.snd.snd.snd.snd.snd v8.fst.toNat 12) 48 (rr v7.snd.snd.snd.snd.snd.snd.snd v8.fst.toNat 12), .sl (rn v7.snd.snd.snd.snd.snd.snd.snd v8.fst.toNat 13) 21 (rr v7.snd.snd.snd.snd.snd.snd.snd v8.fst.toNat 13), .int .i64 (ri v7.snd.snd.snd.snd.snd.snd.snd v8.fst.toNat 14), .int .i64 (ri v7.snd.snd.snd.snd.snd.snd.snd v8.fst.toNat 15), .int .i64 (ri v7.snd.snd.snd.snd.snd.snd.snd v8.fst.toNat 16), .int .i64 (ri v7.snd.snd.snd.snd.snd.snd.snd v8.fst.toNat 17), .int .i64 (ri v7.snd.snd.snd.snd.snd.snd.snd v8.fst.toNat 18), .int .i64 (ri v7.snd.snd.snd.snd.snd.snd.snd v8.fst.toNat 19), .int .i64 (ri v7.snd.snd.snd.snd.snd.snd.snd v8.fst.toNat 20), .int .i64 (ri v7.snd.snd.snd.snd.snd.snd.snd v8.fst.toNat 21)]), (8, .arr true 47 (v7.snd.snd.snd.snd.snd.snd.fst) (v7.snd.snd.snd.snd.snd.snd.snd))], 9, [], []⟩) h (fun Q h => ?_) (fun v10 h => ?_)
        · conv => whnf
          refine XNeed.mk (XNeed.c h) ?_; replace h := XNeed.x h
          conv => whnf
          refine ASeq.go tab_ok mixed_ ?_
          conv => whnf
          refine XNeed.mk (XNeed.c h) ?_; replace h := XNeed.x h
          conv => whnf
          refine XSplit.mk (fun e => ?_) (fun e => ?_)
          · replace h := XSplit.t h e
            conv => whnf
            refine ⟨_, Weak.a ?_, h⟩; (conv => whnf); exact ⟨rfl, rfl, rfl, rfl, rfl⟩
          · replace h := XSplit.f h e
            conv => whnf
            refine XNeed.mk (XNeed.c h) ?_; replace h := XNeed.x h
            conv => whnf
            refine ASeq.joinW tab_ok mixed_ (fun v11 => ⟨[(1, .ptr 0 0), (2, .ptr 1 0), (3, .ptr 2 0), (4, .own 3), (6, .ptr 4 0), (7, .own 5), (8, .own 6), (9, .int .i64 (v8.fst)), (10, .ptr 7 0), (27, .own 8), (28, .int .i64 ((↑(List.length v7.snd.snd.snd.snd.snd.snd.snd) : Int))), (29, .int .i64 (v8.fst)), (30, .bool (decide (v8.fst < (↑(List.length v7.snd.snd.snd.snd.snd.snd.snd) : Int)))), (31, .int .i64 (v8.fst)), (32, .elt 8 (v8.fst.toNat) 0), (33, .agg [.int .i64 (ri v7.snd.snd.snd.snd.snd.snd.snd v8.fst.toNat 0), .int .i64 (ri v7.snd.snd.snd.snd.snd.snd.snd v8.fst.toNat 1), .int .i64 (ri v7.snd.snd.snd.snd.snd.snd.snd v8.fst.toNat 2), .int .i64 (ri v7.snd.snd.snd.snd.snd.snd.snd v8.fst.toNat 3), .int .i64 (ri v7.snd.snd.snd.snd.snd.snd.snd v8.fst.toNat 4), .int .i64 (ri v7.snd.snd.snd.snd.snd.snd.snd v8.fst.toNat 5), .int .i64 (ri v7.snd.snd.snd.snd.snd.snd.snd v8.fst.toNat 6), .int .i64 (ri v7.snd.snd.snd.snd.snd.snd.snd v8.fst.toNat 7), .int .i64 (ri v7.snd.snd.snd.snd.snd.snd.snd v8.fst.toNat 8), .int .i64 (ri v7.snd.snd.snd.snd.snd.snd.snd v8.fst.toNat 9), .int .i64 (ri v7.snd.snd.snd.snd.snd.snd.snd v8.fst.toNat 10), .int .i64 (ri v7.snd.snd.snd.snd.snd.snd.snd v8.fst.toNat 11), .sl (rn v7.snd.snd.snd.snd.snd.snd.snd v8.fst.toNat 12) 48 (rr v7.snd.snd.snd.snd.snd.snd.snd v8.fst.toNat 12), .sl (rn v7.snd.snd.snd.snd.snd.snd.snd v8.fst.toNat 13) 21 (rr v7.snd.snd.snd.snd.snd.snd.snd v8.fst.toNat 13), .int .i64 (ri v7.snd.snd.snd.snd.snd.snd.snd v8.fst.toNat 14), .int .i64 (ri v7.snd.snd.snd.snd.snd.snd.snd v8.fst.toNat 15), .int .i64 (ri v7.snd.snd.snd.snd.snd.snd.snd v8.fst.toNat 16), .int .i64 (ri v7.snd.snd.snd.snd.snd.snd.snd v8.fst.toNat 17), .int .i64 (ri v7.snd.snd.snd.snd.snd.snd.snd v8.fst.toNat 18), .int .i64 (ri v7.snd.snd.snd.snd.snd.snd.snd v8.fst.toNat 19), .int .i64 (ri v7.snd.snd.snd.snd.snd.snd.snd v8.fst.toNat 20), .int .i64 (ri v7.snd.snd.snd.snd.snd.snd.snd v8.fst.toNat 21)]), (34, .own 3), (35, .int .i64 (v8.fst)), (36, .int .i64 (IntKind.i64.wrap (v8.fst + 1))), (37, .elt 3 ((IntKind.i64.wrap (v8.fst + 1)).toNat) 0), (38, .bool (rb v6.snd.snd.snd.snd (IntKind.i64.wrap (v8.fst + 1)).toNat 0)), (39, .bool (!rb v6.snd.snd.snd.snd (IntKind.i64.wrap (v8.fst + 1)).toNat 0)), (40, .own 5), (41, .ptr 7 1), (42, .int .i64 (ri v7.snd.snd.snd.snd.snd.snd.snd v8.fst.toNat 1)), (43, .elt 5 ((ri v7.snd.snd.snd.snd.snd.snd.snd v8.fst.toNat 1).toNat) 0), (44, .int .i64 (ri v8.snd.fst (ri v7.snd.snd.snd.snd.snd.snd.snd v8.fst.toNat 1).toNat 0)), (45, .ptr 7 1), (46, .ptr 7 0), (47, .int .i64 (ri v7.snd.snd.snd.snd.snd.snd.snd v8.fst.toNat 0)), (48, .bool (ri v7.snd.snd.snd.snd.snd.snd.snd v8.fst.toNat 0 == 6))], [(0, .box 26 [.int .i64 (a0), .int .i64 (a1), .int .i64 (a2), .int .i64 (a3), .int .i64 (a4), .sl (a5) 47 (a6), .int .i64 (a7)]), (1, .box 26 [.int .i64 (0), .int .i64 (0), .int .i64 (0), .int .i64 (0), .int .i64 (0), .nils, .int .i64 (0)]), (2, .box 31 [.int .i64 (0), .int .i64 (0), .int .i64 (0)]), (3, .arr true 4 (v6.snd.snd.snd.fst) (v6.snd.snd.snd.snd)), (4, .box 26 [.int .i64 (v7.fst), .int .i64 (v7.snd.fst), .int .i64 (v7.snd.snd.fst), .int .i64 (v7.snd.snd.snd.fst), .int .i64 (v7.snd.snd.snd.snd.fst), .own 8, .int .i64 (v7.snd.snd.snd.snd.snd.fst)]), (5, .arr true 3 (false) (v8.snd.fst)), (6, .arr true 47 (v8.snd.snd.fst) (v8.snd.snd.snd)), (7, .box 47 [.int .i64 (ri v7.snd.snd.snd.snd.snd.snd.snd v8.fst.toNat 0), .int .i64 (ri v8.snd.fst (ri v7.snd.snd.snd.snd.snd.snd.snd v8.fst.toNat 1).toNat 0), .int .i64 (v11), .int .i64 (ri v7.snd.snd.snd.snd.snd.snd.snd v8.fst.toNat 3), .int .i64 (ri v7.snd.snd.snd.snd.snd.snd.snd v8.fst.toNat 4), .int .i64 (ri v7.snd.snd.snd.snd.snd.snd.snd v8.fst.toNat 5), .int .i64 (ri v7.snd.snd.snd.snd.snd.snd.snd v8.fst.toNat 6), .int .i64 (ri v7.snd.snd.snd.snd.snd.snd.snd v8.fst.toNat 7), .int .i64 (ri v7.snd.snd.snd.snd.snd.snd.snd v8.fst.toNat 8), .int .i64 (ri v7.snd.snd.snd.snd.snd.snd.snd v8.fst.toNat 9), .int .i64 (ri v7.snd.snd.snd.snd.snd.snd.snd v8.fst.toNat 10), .int .i64 (ri v7.snd.snd.snd.snd.snd.snd.snd v8.fst.toNat 11), .sl (rn v7.snd.snd.snd.snd.snd.snd.snd v8.fst.toNat 12) 48 (rr v7.snd.snd.snd.snd.snd.snd.snd v8.fst.toNat 12), .sl (rn v7.snd.snd.snd.snd.snd.snd.snd v8.fst.toNat 13) 21 (rr v7.snd.snd.snd.snd.snd.snd.snd v8.fst.toNat 13), .int .i64 (ri v7.snd.snd.snd.snd.snd.snd.snd v8.fst.toNat 14), .int .i64 (ri v7.snd.snd.snd.snd.snd.snd.snd v8.fst.toNat 15), .int .i64 (ri v7.snd.snd.snd.snd.snd.snd.snd v8.fst.toNat 16), .int .i64 (ri v7.snd.snd.snd.snd.snd.snd.snd v8.fst.toNat 17), .int .i64 (ri v7.snd.snd.snd.snd.snd.snd.snd v8.fst.toNat 18), .int .i64 (ri v7.snd.snd.snd.snd.snd.snd.snd v8.fst.toNat 19), .int .i64 (ri v7.snd.snd.snd.snd.snd.snd.snd v8.fst.toNat 20), .int .i64 (ri v7.snd.snd.snd.snd.snd.snd.snd v8.fst.toNat 21)]), (8, .arr true 47 (v7.snd.snd.snd.snd.snd.snd.fst) (v7.snd.snd.snd.snd.snd.snd.snd))], 9, [], []⟩) h (fun Q h => ?_) (fun v11 h => ?_)
            · conv => whnf
              refine XSplit.mk (fun e => ?_) (fun e => ?_)
              · replace h := XSplit.t h e
                conv => whnf
                refine XNeed.mk (XNeed.c h) ?_; replace h := XNeed.x h
                conv => whnf
                refine ⟨_, Weak.a ?_, h⟩; (conv => whnf); exact ⟨rfl, rfl, rfl, rfl, rfl⟩
              · replace h := XSplit.f h e
                conv => whnf
                refine ⟨_, Weak.a ?_, h⟩; (conv => whnf); exact ⟨rfl, rfl, rfl, rfl, rfl⟩
            · conv => whnf
              refine XNeed.mk (XNeed.c h) ?_; replace h := XNeed.x h
              conv => whnf
              refine XNeed.mk (XNeed.c h) ?_; replace h := XNeed.x h
              conv => whnf
              refine ⟨_, Weak.a ?_, h⟩; (conv => whnf); exact ⟨rfl, rfl, rfl, rfl, rfl⟩
        · conv => whnf
          refine ⟨_, Weak.a ?_, h⟩; (conv => whnf); exact ⟨rfl, rfl, rfl, rfl, rfl⟩
      · replace h := XSplit.f h e
        conv => whnf
        refine ⟨_, ?_, Weak.a ?_, h⟩; exact rfl; (conv => whnf); exact ⟨rfl, rfl, rfl, rfl, rfl⟩
    · conv => whnf
      refine XNeed.mk (XNeed.c h) ?_; replace h := XNeed.x h
      conv => whnf
      refine ⟨_, Weak.a ?_, ?_, h⟩; (conv => whnf); exact ⟨rfl, rfl, rfl, rfl, rfl⟩; exact rfl

theorem c_law24_three {Q : Int × Int × Int × Int × Int × Int × Bool × Rws → Prop} {R : AV → List AB → Prop} (h : (g_law24_three).run Q) (k : ∀ r, Q r → R (.agg [.int .i64 (r.fst), .int .i64 (r.snd.fst), .int .i64 (r.snd.snd.fst), .int .i64 (r.snd.snd.snd.fst), .int .i64 (r.snd.snd.snd.snd.fst), .own 0, .int .i64 (r.snd.snd.snd.snd.snd.fst)]) ([.arr true 47 (r.snd.snd.snd.snd.snd.snd.fst) (r.snd.snd.snd.snd.snd.snd.snd)])) : ACalls Try.prog tab 26 [] [] R := by
  refine ACalls.out (fun r => .agg [.int .i64 (r.fst), .int .i64 (r.snd.fst), .int .i64 (r.snd.snd.fst), .int .i64 (r.snd.snd.snd.fst), .int .i64 (r.snd.snd.snd.snd.fst), .own 0, .int .i64 (r.snd.snd.snd.snd.snd.fst)]) (fun r => [.arr true 47 (r.snd.snd.snd.snd.snd.snd.fst) (r.snd.snd.snd.snd.snd.snd.snd)]) (Q := Q) (ACalls.introX (mv := mv) tab_ok mixed_ (fn := Try.f26) (by kernel_rfl) rfl (by kernel_rfl) (by kernel_rfl) (Nat.le_of_ble_eq_true rfl) ?_) (fun v => by first | exact ⟨rfl, Nat.le_of_ble_eq_true rfl⟩ | (cases v <;> exact ⟨rfl, Nat.le_of_ble_eq_true rfl⟩)) k
  conv => whnf
  refine ⟨_, Weak.a ?_, ?_, h⟩; (conv => whnf); exact ⟨rfl, rfl, rfl, rfl, rfl⟩; exact rfl
end Go.Proofs.Ytalchibbmkhkpaa.V24

set_option linter.unusedVariables false
set_option maxRecDepth 100000
set_option maxHeartbeats 0
namespace Go.Proofs.Ytalchibbmkhkpaa.V24
open Go.Proofs Go.Proofs.Ytalchibbmkhkpaa.VX
theorem c_ref24_Same {a0 : Bool} {a1 : Rws} {a2 : Bool} {a3 : Rws} {Q : Bool → Prop} {R : AV → List AB → Prop} (h : (g_ref24_Same a0 a1 a2 a3).run Q) (k : ∀ r, Q r → R (.bool (r)) ([])) : ACalls Try.prog tab 14 [.sl (a0) 4 (a1), .sl (a2) 4 (a3)] [] R := by
  refine ACalls.out (fun r => .bool (r)) (fun r => []) (Q := Q) (ACalls.introX (mv := mv) tab_ok mixed_ (fn := Try.f14) (by kernel_rfl) rfl (by kernel_rfl) (by kernel_rfl) (Nat.le_of_ble_eq_true rfl) ?_) (fun v => by first | exact ⟨rfl, Nat.le_of_ble_eq_true rfl⟩ | (cases v <;> exact ⟨rfl, Nat.le_of_ble_eq_true rfl⟩)) k
  conv => whnf
  refine ASeq.go tab_ok mixed_ ?_
  conv => whnf
  refine XSplit.mk (fun e => ?_) (fun e => ?_)
  · replace h := XSplit.t h e
    conv => whnf
    refine ⟨_, Weak.a ?_, ?_, h⟩; (conv => whnf); exact ⟨rfl, rfl, rfl, rfl, rfl⟩; exact rfl
  · replace h := XSplit.f h e
    conv => whnf
    refine ASeq.go tab_ok mixed_ ?_
    conv => whnf
    refine ALoop.ofW tab_ok mixed_ (fun v3 => ⟨[(0, .sl (a0) 4 (a1)), (1, .sl (a2) 4 (a3)), (4, .kb false), (12, .int .i64 ((↑(List.length a1) : Int))), (13, .int .i64 (v3))], [], 0, [], []⟩) (sx (fun v4 => (.ret, ⟨[(4, .kb false)], [], 0, [], []⟩)) (fun v5 => (.exit 0, ⟨[(4, .kb false)], [], 0, [], []⟩))) (W.bindE h) (Weak.a ?_) (fun v3 I Q h => ?_) (fun v h => ?_)
    · conv => whnf
      exact ⟨rfl, rfl, rfl, rfl, rfl⟩
    · conv => whnf
      refine ASeq.go tab_ok mixed_ ?_
      conv => whnf
      refine XSplit.mk (fun e => ?_) (fun e => ?_)
      · replace h := XSplit.t h e
        conv => whnf
        refine ASeq.go tab_ok mixed_ ?_
        conv => whnf
        refine XDraw.q [0, 1, 2, 3, 4, 5, 6, 7, 8] (by decide +kernel) ?_
        conv => whnf
        refine XNeed.mk (XNeed.c h) ?_; replace h := XNeed.x h
        conv => whnf
        refine XNeed.mk (XNeed.c h) ?_; replace h := XNeed.x h
        conv => whnf
        refine XSplit.mk (fun e => ?_) (fun e => ?_)
        · replace h := XSplit.t h e
          conv => whnf
          refine ⟨_, ?_, Weak.a ?_, h⟩; exact rfl; (conv => whnf); exact ⟨rfl, rfl, rfl, rfl, rfl⟩
        · replace h := XSplit.f h e
          conv => whnf
          refine ⟨_, Weak.a ?_, h⟩; (conv => whnf); exact ⟨rfl, rfl, rfl, rfl, rfl⟩
      · replace h := XSplit.f h e
        conv => whnf
        refine ⟨_, ?_, Weak.a ?_, h⟩; exact rfl; (conv => whnf); exact ⟨rfl, rfl, rfl, rfl, rfl⟩
    · rcases v with v4 | v5
      · conv => whnf
        refine ⟨_, Weak.a ?_, ?_, h⟩; (conv => whnf); exact ⟨rfl, rfl, rfl, rfl, rfl⟩; exact rfl
      · conv => whnf
        refine ⟨_, Weak.a ?_, ?_, h⟩; (conv => whnf); exact ⟨rfl, rfl, rfl, rfl, rfl⟩; exact rfl

theorem c_law24_fixed {Q : Bool → Prop} {R : AV → List AB → Prop} (h : (g_law24_fixed).run Q) (k : ∀ r, Q r → R (.bool (r)) ([])) : ACalls Try.prog tab 13 [] [] R := by
  refine ACalls.out (fun r => .bool (r)) (fun r => []) (Q := Q) (ACalls.introX (mv := mv) tab_ok mixed_ (fn := Try.f13) (by kernel_rfl) rfl (by kernel_rfl) (by kernel_rfl) (Nat.le_of_ble_eq_true rfl) ?_) (fun v => by first | exact ⟨rfl, Nat.le_of_ble_eq_true rfl⟩ | (cases v <;> exact ⟨rfl, Nat.le_of_ble_eq_true rfl⟩)) k
  conv => whnf
  refine ACalls.inn (c_law24_three (W.bindE h) (fun v5 h => ?_)) ⟨rfl, rfl⟩
  conv => whnf
  refine ACalls.inn (c_trim_Live (W.bindE h) (fun v6 h => ?_)) ⟨rfl, rfl⟩
  conv => whnf
  refine ACalls.inn (c_law24_three (W.bindE h) (fun v7 h => ?_)) ⟨rfl, rfl⟩
  conv => whnf
  refine ACalls.inn (c_trim_Trim (W.bindE h) (fun v8 h => ?_)) ⟨rfl, rfl⟩
  conv => whnf
  refine ACalls.inn (c_ref24_Same (W.bindE h) (fun v9 h => ?_)) ⟨rfl, rfl⟩
  conv => whnf
  refine XNeed.mk (XNeed.c h) ?_; replace h := XNeed.x h
  conv => whnf
  refine XNeed.mk (XNeed.c h) ?_; replace h := XNeed.x h
  conv => whnf
  refine ⟨_, Weak.a ?_, ?_, h⟩; (conv => whnf); exact ⟨rfl, rfl, rfl, rfl, rfl⟩; exact rfl

theorem c_ref08_SameOp {a0 : Int} {a1 : Int} {a2 : Int} {a3 : Int} {a4 : Int} {a5 : Int} {a6 : Int} {a7 : Int} {a8 : Int} {a9 : Int} {a10 : Int} {a11 : Int} {a12 : Bool} {a13 : Rws} {a14 : Bool} {a15 : Rws} {a16 : Int} {a17 : Int} {a18 : Int} {a19 : Int} {a20 : Int} {a21 : Int} {a22 : Int} {a23 : Int} {a24 : Int} {a25 : Int} {a26 : Int} {a27 : Int} {a28 : Int} {a29 : Int} {a30 : Int} {a31 : Int} {a32 : Int} {a33 : Int} {a34 : Int} {a35 : Int} {a36 : Bool} {a37 : Rws} {a38 : Bool} {a39 : Rws} {a40 : Int} {a41 : Int} {a42 : Int} {a43 : Int} {a44 : Int} {a45 : Int} {a46 : Int} {a47 : Int} {Q : Bool → Prop} {R : AV → List AB → Prop} (h : (g_ref08_SameOp a0 a1 a2 a3 a4 a5 a6 a7 a8 a9 a10 a11 a12 a13 a14 a15 a16 a17 a18 a19 a20 a21 a22 a23 a24 a25 a26 a27 a28 a29 a30 a31 a32 a33 a34 a35 a36 a37 a38 a39 a40 a41 a42 a43 a44 a45 a46 a47).run Q) (k : ∀ r, Q r → R (.bool (r)) ([])) : ACalls Try.prog tab 27 [.agg [.int .i64 (a0), .int .i64 (a1), .int .i64 (a2), .int .i64 (a3), .int .i64 (a4), .int .i64 (a5), .int .i64 (a6), .int .i64 (a7), .int .i64 (a8), .int .i64 (a9), .int .i64 (a10), .int .i64 (a11), .sl (a12) 48 (a13), .sl (a14) 21 (a15), .int .i64 (a16), .int .i64 (a17), .int .i64 (a18), .int .i64 (a19), .int .i64 (a20), .int .i64 (a21), .int .i64 (a22), .int .i64 (a23)], .agg [.int .i64 (a24), .int .i64 (a25), .int .i64 (a26), .int .i64 (a27), .int .i64 (a28), .int .i64 (a29), .int .i64 (a30), .int .i64 (a31), .int .i64 (a32), .int .i64 (a33), .int .i64 (a34), .int .i64 (a35), .sl (a36) 48 (a37), .sl (a38) 21 (a39), .int .i64 (a40), .int .i64 (a41), .int .i64 (a42), .int .i64 (a43), .int .i64 (a44), .int .i64 (a45), .int .i64 (a46), .int .i64 (a47)]] [] R := by
  refine ACalls.out (fun r => .bool (r)) (fun r => []) (Q := Q) (ACalls.introX (mv := mv) tab_ok mixed_ (fn := Try.f27) (by kernel_rfl) rfl (by kernel_rfl) (by kernel_rfl) (Nat.le_of_ble_eq_true rfl) ?_) (fun v => by first | exact ⟨rfl, Nat.le_of_ble_eq_true rfl⟩ | (cases v <;> exact ⟨rfl, Nat.le_of_ble_eq_true rfl⟩)) k
  conv => whnf
  refine ASeq.go tab_ok mixed_ ?_
  conv => whnf
  refine XSplit.mk (fun e => ?_) (fun e => ?_)
  · replace h := XSplit.t h e
    conv => whnf
    refine ⟨_, Weak.a ?_, ?_, h⟩; (conv => whnf); exact ⟨rfl, rfl, rfl, rfl, rfl⟩; exact rfl
  · replace h := XSplit.f h e
    conv => whnf
    refine ASeq.go tab_ok mixed_ ?_
    conv => whnf
    refine XSplit.mk (fun e => ?_) (fun e => ?_)
    · replace h := XSplit.t h e
      conv => whnf
      refine ⟨_, Weak.a ?_, ?_, h⟩; (conv => whnf); exact ⟨rfl, rfl, rfl, rfl, rfl⟩; exact rfl
    · replace h := XSplit.f h e
      conv => whnf
      refine ASeq.go tab_ok mixed_ ?_
      conv => whnf
      refine ALoop.ofW tab_ok mixed_ (fun v6 => ⟨[(2, .ptr 0 0), (3, .ptr 1 0), (4, .kb false), (100, .int .i64 ((↑(List.length a13) : Int))), (101, .int .i64 (v6))], [(0, .box 47 [.int .i64 (a0), .int .i64 (a1), .int .i64 (a2), .int .i64 (a3), .int .i64 (a4), .int .i64 (a5), .int .i64 (a6), .int .i64 (a7), .int .i64 (a8), .int .i64 (a9), .int .i64 (a10), .int .i64 (a11), .sl (a12) 48 (a13), .sl (a14) 21 (a15), .int .i64 (a16), .int .i64 (a17), .int .i64 (a18), .int .i64 (a19), .int .i64 (a20), .int .i64 (a21), .int .i64 (a22), .int .i64 (a23)]), (1, .box 47 [.int .i64 (a24), .int .i64 (a25), .int .i64 (a26), .int .i64 (a27), .int .i64 (a28), .int .i64 (a29), .int .i64 (a30), .int .i64 (a31), .int .i64 (a32), .int .i64 (a33), .int .i64 (a34), .int .i64 (a35), .sl (a36) 48 (a37), .sl (a38) 21 (a39), .int .i64 (a40), .int .i64 (a41), .int .i64 (a42), .int .i64 (a43), .int .i64 (a44), .int .i64 (a45), .int .i64 (a46), .int .i64 (a47)])], 2, [], []⟩) (sx (fun v7 => (.ret, ⟨[(2, .ptr 0 0), (3, .ptr 1 0), (4, .kb false)], [(0, .box 47 [.int .i64 (a0), .int .i64 (a1), .int .i64 (a2), .int .i64 (a3), .int .i64 (a4), .int .i64 (a5), .int .i64 (a6), .int .i64 (a7), .int .i64 (a8), .int .i64 (a9), .int .i64 (a10), .int .i64 (a11), .sl (a12) 48 (a13), .sl (a14) 21 (a15), .int .i64 (a16), .int .i64 (a17), .int .i64 (a18), .int .i64 (a19), .int .i64 (a20), .int .i64 (a21), .int .i64 (a22), .int .i64 (a23)]), (1, .box 47 [.int .i64 (a24), .int .i64 (a25), .int .i64 (a26), .int .i64 (a27), .int .i64 (a28), .int .i64 (a29), .int .i64 (a30), .int .i64 (a31), .int .i64 (a32), .int .i64 (a33), .int .i64 (a34), .int .i64 (a35), .sl (a36) 48 (a37), .sl (a38) 21 (a39), .int .i64 (a40), .int .i64 (a41), .int .i64 (a42), .int .i64 (a43), .int .i64 (a44), .int .i64 (a45), .int .i64 (a46), .int .i64 (a47)])], 2, [], []⟩)) (fun v8 => (.exit 0, ⟨[(2, .ptr 0 0), (3, .ptr 1 0), (4, .kb false)], [(0, .box 47 [.int .i64 (a0), .int .i64 (a1), .int .i64 (a2), .int .i64 (a3), .int .i64 (a4), .int .i64 (a5), .int .i64 (a6), .int .i64 (a7), .int .i64 (a8), .int .i64 (a9), .int .i64 (a10), .int .i64 (a11), .sl (a12) 48 (a13), .sl (a14) 21 (a15), .int .i64 (a16), .int .i64 (a17), .int .i64 (a18), .int .i64 (a19), .int .i64 (a20), .int .i64 (a21), .int .i64 (a22), .int .i64 (a23)]), (1, .box 47 [.int .i64 (a24), .int .i64 (a25), .int .i64 (a26), .int .i64 (a27), .int .i64 (a28), .int .i64 (a29), .int .i64 (a30), .int .i64 (a31), .int .i64 (a32), .int .i64 (a33), .int .i64 (a34), .int .i64 (a35), .sl (a36) 48 (a37), .sl (a38) 21 (a39), .int .i64 (a40), .int .i64 (a41), .int .i64 (a42), .int .i64 (a43), .int .i64 (a44), .int .i64 (a45), .int .i64 (a46), .int .i64 (a47)])], 2, [], []⟩))) (W.bindE h) (Weak.a ?_) (fun v6 I Q h => ?_) (fun v h => ?_)
      · conv => whnf
        exact ⟨rfl, rfl, rfl, rfl, rfl⟩
      · conv => whnf
        refine ASeq.go tab_ok mixed_ ?_
        conv => whnf
        refine XSplit.mk (fun e => ?_) (fun e => ?_)
        · replace h := XSplit.t h e
          conv => whnf
          refine ASeq.go tab_ok mixed_ ?_
          conv => whnf
          refine XDraw.q [0, 1, 2, 3, 4, 5, 6, 7, 8, 9, 10] (by decide +kernel) ?_
          conv => whnf
          refine XNeed.mk (XNeed.c h) ?_; replace h := XNeed.x h
          conv => whnf
          refine XNeed.mk (XNeed.c h) ?_; replace h := XNeed.x h
          conv => whnf
          refine XSplit.mk (fun e => ?_) (fun e => ?_)
          · replace h := XSplit.t h e
            conv => whnf
            refine ⟨_, ?_, Weak.a ?_, h⟩; exact rfl; (conv => whnf); exact ⟨rfl, rfl, rfl, rfl, rfl⟩
          · replace h := XSplit.f h e
            conv => whnf
            refine ⟨_, Weak.a ?_, h⟩; (conv => whnf); exact ⟨rfl, rfl, rfl, rfl, rfl⟩
        · replace h := XSplit.f h e
          conv => whnf
          refine ⟨_, ?_, Weak.a ?_, h⟩; exact rfl; (conv => whnf); exact ⟨rfl, rfl, rfl, rfl, rfl⟩
      · rcases v with v7 | v8
        · conv => whnf
          refine ⟨_, Weak.a ?_, ?_, h⟩; (conv => whnf); exact ⟨rfl, rfl, rfl, rfl, rfl⟩; exact rfl
        · conv => whnf
          refine ASeq.go tab_ok mixed_ ?_
          conv => whnf
          refine ALoop.ofW tab_ok mixed_ (fun v9 => ⟨[(2, .ptr 0 0), (3, .ptr 1 0), (4, .kb false), (118, .int .i64 ((↑(List.length a15) : Int))), (119, .int .i64 (v9))], [(0, .box 47 [.int .i64 (a0), .int .i64 (a1), .int .i64 (a2), .int .i64 (a3), .int .i64 (a4), .int .i64 (a5), .int .i64 (a6), .int .i64 (a7), .int .i64 (a8), .int .i64 (a9), .int .i64 (a10), .int .i64 (a11), .sl (a12) 48 (a13), .sl (a14) 21 (a15), .int .i64 (a16), .int .i64 (a17), .int .i64 (a18), .int .i64 (a19), .int .i64 (a20), .int .i64 (a21), .int .i64 (a22), .int .i64 (a23)]), (1, .box 47 [.int .i64 (a24), .int .i64 (a25), .int .i64 (a26), .int .i64 (a27), .int .i64 (a28), .int .i64 (a29), .int .i64 (a30), .int .i64 (a31), .int .i64 (a32), .int .i64 (a33), .int .i64 (a34), .int .i64 (a35), .sl (a36) 48 (a37), .sl (a38) 21 (a39), .int .i64 (a40), .int .i64 (a41), .int .i64 (a42), .int .i64 (a43), .int .i64 (a44), .int .i64 (a45), .int .i64 (a46), .int .i64 (a47)])], 2, [], []⟩) (sx (fun v10 => (.ret, ⟨[(4, .kb false)], [], 0, [], []⟩)) (fun v11 => (.exit 2, ⟨[(4, .kb false)], [], 0, [], []⟩))) (W.bindE h) (Weak.a ?_) (fun v9 I Q h => ?_) (fun v h => ?_)
          · conv => whnf
            exact ⟨rfl, rfl, rfl, rfl, rfl⟩
          · conv => whnf
            refine ASeq.go tab_ok mixed_ ?_
            conv => whnf
            refine XSplit.mk (fun e => ?_) (fun e => ?_)
            · replace h := XSplit.t h e
              conv => whnf
              refine ASeq.go tab_ok mixed_ ?_
              conv => whnf
              refine XDraw.q [0, 1, 2, 3, 4, 5, 6, 7, 8, 9, 10] (by decide +kernel) ?_
              conv => whnf
              refine XNeed.mk (XNeed.c h) ?_; replace h := XNeed.x h
              conv => whnf
              refine XNeed.mk (XNeed.c h) ?_; replace h := XNeed.x h
              conv => whnf
              refine XSplit.mk (fun e => ?_) (fun e => ?_)
              · replace h := XSplit.t h e
                conv => whnf
                refine ⟨_, ?_, Weak.a ?_, h⟩; exact rfl; (conv => whnf); exact ⟨rfl, rfl, rfl, rfl, rfl⟩
              · replace h := XSplit.f h e
                conv => whnf
                refine ⟨_, Weak.a ?_, h⟩; (conv => whnf); exact ⟨rfl, rfl, rfl, rfl, rfl⟩
            · replace h := XSplit.f h e
              conv => whnf
              refine ⟨_, ?_, Weak.a ?_, h⟩; exact rfl; (conv => whnf); exact ⟨rfl, rfl, rfl, rfl, rfl⟩
          · rcases v with v10 | v11
            · conv => whnf
              refine ⟨_, Weak.a ?_, ?_, h⟩; (conv => whnf); exact ⟨rfl, rfl, rfl, rfl, rfl⟩; exact rfl
            · conv => whnf
              refine ⟨_, Weak.a ?_, ?_, h⟩; (conv => whnf); exact ⟨rfl, rfl, rfl, rfl, rfl⟩; exact rfl

theorem c_ref08_Same {a0 : Int} {a1 : Int} {a2 : Int} {a3 : Int} {a4 : Int} {a5 : Bool} {a6 : Rws} {a7 : Int} {a8 : Int} {a9 : Int} {a10 : Int} {a11 : Int} {a12 : Int} {a13 : Bool} {a14 : Rws} {a15 : Int} {Q : Bool → Prop} {R : AV → List AB → Prop} (h : (g_ref08_Same a0 a1 a2 a3 a4 a5 a6 a7 a8 a9 a10 a11 a12 a13 a14 a15).run Q) (k : ∀ r, Q r → R (.bool (r)) ([])) : ACalls Try.prog tab 15 [.agg [.int .i64 (a0), .int .i64 (a1), .int .i64 (a2), .int .i64 (a3), .int .i64 (a4), .sl (a5) 47 (a6), .int .i64 (a7)], .agg [.int .i64 (a8), .int .i64 (a9), .int .i64 (a10), .int .i64 (a11), .int .i64 (a12), .sl (a13) 47 (a14), .int .i64 (a15)]] [] R := by
  refine ACalls.out (fun r => .bool (r)) (fun r => []) (Q := Q) (ACalls.introX (mv := mv) tab_ok mixed_ (fn := Try.f15) (by kernel_rfl) rfl (by kernel_rfl) (by kernel_rfl) (Nat.le_of_ble_eq_true rfl) ?_) (fun v => by first | exact ⟨rfl, Nat.le_of_ble_eq_true rfl⟩ | (cases v <;> exact ⟨rfl, Nat.le_of_ble_eq_true rfl⟩)) k
  conv => whnf
  refine ASeq.go tab_ok mixed_ ?_
  conv => whnf
  refine XSplit.mk (fun e => ?_) (fun e => ?_)
  · replace h := XSplit.t h e
    conv => whnf
    refine ⟨_, Weak.a ?_, ?_, h⟩; (conv => whnf); exact ⟨rfl, rfl, rfl, rfl, rfl⟩; exact rfl
  · replace h := XSplit.f h e
    conv => whnf
    refine ASeq.go tab_ok mixed_ ?_
    conv => whnf
    refine ALoop.ofW tab_ok mixed_ (fun v4 => ⟨[(2, .ptr 0 0), (3, .ptr 1 0), (4, .kb false), (43, .int .i64 ((↑(List.length a6) : Int))), (44, .int .i64 (v4))], [(0, .box 26 [.int .i64 (a0), .int .i64 (a1), .int .i64 (a2), .int .i64 (a3), .int .i64 (a4), .sl (a5) 47 (a6), .int .i64 (a7)]), (1, .box 26 [.int .i64 (a8), .int .i64 (a9), .int .i64 (a10), .int .i64 (a11), .int .i64 (a12), .sl (a13) 47 (a14), .int .i64 (a15)])], 2, [], []⟩) (sx (fun v5 => (.ret, ⟨[(4, .kb false)], [], 0, [], []⟩)) (fun v6 => (.exit 0, ⟨[(4, .kb false)], [], 0, [], []⟩))) (W.bindE h) (Weak.a ?_) (fun v4 I Q h => ?_) (fun v h => ?_)
    · conv => whnf
      exact ⟨rfl, rfl, rfl, rfl, rfl⟩
    · conv => whnf
      refine ASeq.go tab_ok mixed_ ?_
      conv => whnf
      refine XSplit.mk (fun e => ?_) (fun e => ?_)
      · replace h := XSplit.t h e
        conv => whnf
        refine ASeq.go tab_ok mixed_ ?_
        conv => whnf
        refine XDraw.d [0, 1, 2, 3, 4, 5, 6, 7, 8, 9, 10, 11] [[], [], [], [], [], [], [], [], [], [], [2, 2], []] (by decide +kernel) ?_
        conv => whnf
        refine XNeed.mk (XNeed.c h) ?_; replace h := XNeed.x h
        conv => whnf
        refine XNeed.mk (XNeed.c h) ?_; replace h := XNeed.x h
        conv => whnf
        refine ACalls.inn (c_ref08_SameOp (W.bindE h) (fun v7 h => ?_)) ⟨rfl, rfl⟩
        conv => whnf
        refine XSplit.mk (fun e => ?_) (fun e => ?_)
        · replace h := XSplit.t h e
          conv => whnf
          refine ⟨_, ?_, Weak.a ?_, h⟩; exact rfl; (conv => whnf); exact ⟨rfl, rfl, rfl, rfl, rfl⟩
        · replace h := XSplit.f h e
          conv => whnf
          refine ⟨_, Weak.a ?_, h⟩; (conv => whnf); exact ⟨rfl, rfl, rfl, rfl, rfl⟩
      · replace h := XSplit.f h e
        conv => whnf
        refine ⟨_, ?_, Weak.a ?_, h⟩; exact rfl; (conv => whnf); exact ⟨rfl, rfl, rfl, rfl, rfl⟩
    · rcases v with v5 | v6
      · conv => whnf
        refine ⟨_, Weak.a ?_, ?_, h⟩; (conv => whnf); exact ⟨rfl, rfl, rfl, rfl, rfl⟩; exact rfl
      · conv => whnf
        refine ⟨_, Weak.a ?_, ?_, h⟩; (conv => whnf); exact ⟨rfl, rfl, rfl, rfl, rfl⟩; exact rfl

theorem c_law24_TrimTrims {a0 : Int} {a1 : Int} {a2 : Int} {a3 : Int} {a4 : Int} {a5 : Bool} {a6 : Rws} {a7 : Int} {Q : Bool → Prop} {R : AV → List AB → Prop} (h : (g_law24_TrimTrims a0 a1 a2 a3 a4 a5 a6 a7).run Q) (k : ∀ r, Q r → R (.bool (r)) ([])) : ACalls Try.prog tab 3 [.agg [.int .i64 (a0), .int .i64 (a1), .int .i64 (a2), .int .i64 (a3), .int .i64 (a4), .sl (a5) 47 (a6), .int .i64 (a7)]] [] R := by
  refine ACalls.out (fun r => .bool (r)) (fun r => []) (Q := Q) (ACalls.introX (mv := mv) tab_ok mixed_ (fn := Try.f3) (by kernel_rfl) rfl (by kernel_rfl) (by kernel_rfl) (Nat.le_of_ble_eq_true rfl) ?_) (fun v => by first | exact ⟨rfl, Nat.le_of_ble_eq_true rfl⟩ | (cases v <;> exact ⟨rfl, Nat.le_of_ble_eq_true rfl⟩)) k
  conv => whnf
  refine ACalls.inn (c_ref08_Copy (W.bindE h) (fun v10 h => ?_)) ⟨rfl, rfl⟩
  conv => whnf
  refine ACalls.inn (c_trim_Live (W.bindE h) (fun v11 h => ?_)) ⟨rfl, rfl⟩
  conv => whnf
  refine ACalls.inn (c_trim_Trim (W.bindE h) (fun v12 h => ?_)) ⟨rfl, rfl⟩
  conv => whnf
  refine ACalls.inn (c_ref24_Live (W.bindE h) (fun v13 h => ?_)) ⟨rfl, rfl⟩
  conv => whnf
  refine ACalls.inn (c_ref24_Trim (W.bindE h) (fun v14 h => ?_)) ⟨rfl, rfl⟩
  conv => whnf
  refine ASeq.joinW tab_ok mixed_ (fun v15 => ⟨[(2, .bool (v15))], [], 0, [], []⟩) h (fun Q h => ?_) (fun v15 h => ?_)
  · conv => whnf
    refine ACalls.inn (c_law24_fixed (W.bindE h) (fun v16 h => ?_)) ⟨rfl, rfl⟩
    conv => whnf
    refine XSplit.mk (fun e => ?_) (fun e => ?_)
    · replace h := XSplit.t h e
      conv => whnf
      refine ACalls.inn (c_ref24_Same (W.bindE h) (fun v17 h => ?_)) ⟨rfl, rfl⟩
      conv => whnf
      refine XSplit.mk (fun e => ?_) (fun e => ?_)
      · replace h := XSplit.t h e
        conv => whnf
        refine ACalls.inn (c_ref08_Same (W.bindE h) (fun v18 h => ?_)) ⟨rfl, rfl⟩
        conv => whnf
        refine XSplit.mk (fun e => ?_) (fun e => ?_)
        · replace h := XSplit.t h e
          conv => whnf
          refine ACalls.inn (c_ref08_Same (W.bindE h) (fun v19 h => ?_)) ⟨rfl, rfl⟩
          conv => whnf
          refine ⟨_, Weak.a ?_, h⟩; (conv => whnf); exact ⟨rfl, rfl, rfl, rfl, rfl⟩
        · replace h := XSplit.f h e
          conv => whnf
          refine ⟨_, Weak.a ?_, h⟩; (conv => whnf); exact ⟨rfl, rfl, rfl, rfl, rfl⟩
      · replace h := XSplit.f h e
        conv => whnf
        refine ⟨_, Weak.a ?_, h⟩; (conv => whnf); exact ⟨rfl, rfl, rfl, rfl, rfl⟩
    · replace h := XSplit.f h e
      conv => whnf
      refine ⟨_, Weak.a ?_, h⟩; (conv => whnf); exact ⟨rfl, rfl, rfl, rfl, rfl⟩
  · conv => whnf
    refine ⟨_, Weak.a ?_, ?_, h⟩; (conv => whnf); exact ⟨rfl, rfl, rfl, rfl, rfl⟩; exact rfl

theorem c_model_Work {a0 : Int} {a1 : Int} {a2 : Int} {a3 : Int} {a4 : Int} {a5 : Bool} {a6 : Rws} {a7 : Int} {Q : Int × Int × Int × Int → Prop} {R : AV → List AB → Prop} (h : (g_model_Work a0 a1 a2 a3 a4 a5 a6 a7).run Q) (k : ∀ r, Q r → R (.tup [.int .i64 (r.fst), .agg [.int .i64 (r.snd.fst), .int .i64 (r.snd.snd.fst), .int .i64 (r.snd.snd.snd)]]) ([])) : ACalls Try.prog tab 17 [.agg [.int .i64 (a0), .int .i64 (a1), .int .i64 (a2), .int .i64 (a3), .int .i64 (a4), .sl (a5) 47 (a6), .int .i64 (a7)]] [] R := by
  refine ACalls.out (fun r => .tup [.int .i64 (r.fst), .agg [.int .i64 (r.snd.fst), .int .i64 (r.snd.snd.fst), .int .i64 (r.snd.snd.snd)]]) (fun r => []) (Q := Q) (ACalls.introX (mv := mv) tab_ok mixed_ (fn := Try.f17) (by kernel_rfl) rfl (by kernel_rfl) (by kernel_rfl) (Nat.le_of_ble_eq_true rfl) ?_) (fun v => by first | exact ⟨rfl, Nat.le_of_ble_eq_true rfl⟩ | (cases v <;> exact ⟨rfl, Nat.le_of_ble_eq_true rfl⟩)) k
  conv => whnf
  refine ACalls.inn (c_model_whole (W.bindE h) (fun v1 h => ?_)) ⟨rfl, rfl⟩
  conv => whnf
  refine XDraw.d [0, 1, 2, 3] [[], [], [], [1]] (by decide +kernel) ?_
  conv => whnf
  refine ⟨_, Weak.a ?_, ?_, h⟩; (conv => whnf); exact ⟨rfl, rfl, rfl, rfl, rfl⟩; exact rfl

theorem c_law24_TrimTwice {a0 : Int} {a1 : Int} {a2 : Int} {a3 : Int} {a4 : Int} {a5 : Bool} {a6 : Rws} {a7 : Int} {Q : Bool → Prop} {R : AV → List AB → Prop} (h : (g_law24_TrimTwice a0 a1 a2 a3 a4 a5 a6 a7).run Q) (k : ∀ r, Q r → R (.bool (r)) ([])) : ACalls Try.prog tab 5 [.agg [.int .i64 (a0), .int .i64 (a1), .int .i64 (a2), .int .i64 (a3), .int .i64 (a4), .sl (a5) 47 (a6), .int .i64 (a7)]] [] R := by
  refine ACalls.out (fun r => .bool (r)) (fun r => []) (Q := Q) (ACalls.introX (mv := mv) tab_ok mixed_ (fn := Try.f5) (by kernel_rfl) rfl (by kernel_rfl) (by kernel_rfl) (Nat.le_of_ble_eq_true rfl) ?_) (fun v => by first | exact ⟨rfl, Nat.le_of_ble_eq_true rfl⟩ | (cases v <;> exact ⟨rfl, Nat.le_of_ble_eq_true rfl⟩)) k
  conv => whnf
  refine ASeq.go tab_ok mixed_ ?_
  conv => whnf
  refine ACalls.inn (c_law24_fixed (W.bindE h) (fun v17 h => ?_)) ⟨rfl, rfl⟩
  conv => whnf
  refine XSplit.mk (fun e => ?_) (fun e => ?_)
  · replace h := XSplit.t h e
    conv => whnf
    refine ⟨_, Weak.a ?_, ?_, h⟩; (conv => whnf); exact ⟨rfl, rfl, rfl, rfl, rfl⟩; exact rfl
  · replace h := XSplit.f h e
    conv => whnf
    refine ACalls.inn (c_trim_Live (W.bindE h) (fun v18 h => ?_)) ⟨rfl, rfl⟩
    conv => whnf
    refine ACalls.inn (c_trim_Trim (W.bindE h) (fun v19 h => ?_)) ⟨rfl, rfl⟩
    conv => whnf
    refine ASeq.go tab_ok mixed_ ?_
    conv => whnf
    refine XSplit.mk (fun e => ?_) (fun e => ?_)
    · replace h := XSplit.t h e
      conv => whnf
      refine ASeq.joinW tab_ok mixed_ (fun v20 => ⟨[(1, .ptr 0 0), (2, .bool (v20)), (3, .own 1), (5, .ptr 2 0)], [(0, .box 26 [.int .i64 (a0), .int .i64 (a1), .int .i64 (a2), .int .i64 (a3), .int .i64 (a4), .sl (a5) 47 (a6), .int .i64 (a7)]), (1, .arr true 4 (v18.snd.snd.snd.fst) (v18.snd.snd.snd.snd)), (2, .box 26 [.int .i64 (v19.fst), .int .i64 (v19.snd.fst), .int .i64 (v19.snd.snd.fst), .int .i64 (v19.snd.snd.snd.fst), .int .i64 (v19.snd.snd.snd.snd.fst), .own 3, .int .i64 (v19.snd.snd.snd.snd.snd.fst)]), (3, .arr true 47 (v19.snd.snd.snd.snd.snd.snd.snd.snd.snd.fst) (v19.snd.snd.snd.snd.snd.snd.snd.snd.snd.snd))], 4, [], []⟩) h (fun Q h => ?_) (fun v20 h => ?_)
      · conv => whnf
        refine XDraw.d [0, 1, 2, 3, 4, 5, 6, 7, 8, 9, 10, 11, 12, 13, 14] [[], [], [], [], [], [], [], [], [], [], [], [], [], [], []] (by decide +kernel) ?_
        conv => whnf
        refine XSplit.mk (fun e => ?_) (fun e => ?_)
        · replace h := XSplit.t h e
          conv => whnf
          refine ACalls.inn (c_model_Check (W.bindE h) (fun v21 h => ?_)) ⟨rfl, rfl⟩
          conv => whnf
          refine ⟨_, Weak.a ?_, h⟩; (conv => whnf); exact ⟨rfl, rfl, rfl, rfl, rfl⟩
        · replace h := XSplit.f h e
          conv => whnf
          refine ⟨_, Weak.a ?_, h⟩; (conv => whnf); exact ⟨rfl, rfl, rfl, rfl, rfl⟩
      · conv => whnf
        refine ⟨_, Weak.a ?_, ?_, h⟩; (conv => whnf); exact ⟨rfl, rfl, rfl, rfl, rfl⟩; exact rfl
    · replace h := XSplit.f h e
      conv => whnf
      refine ACalls.inn (c_model_Work (W.bindE h) (fun v22 h => ?_)) ⟨rfl, rfl⟩
      conv => whnf
      refine ACalls.inn (c_model_Work (W.bindE h) (fun v23 h => ?_)) ⟨rfl, rfl⟩
      conv => whnf
      refine ACalls.inn (c_trim_Live (W.bindE h) (fun v24 h => ?_)) ⟨rfl, rfl⟩
      conv => whnf
      refine ACalls.inn (c_trim_Trim (W.bindE h) (fun v25 h => ?_)) ⟨rfl, rfl⟩
      conv => whnf
      refine ASeq.go tab_ok mixed_ ?_
      conv => whnf
      refine ASeq.joinW tab_ok mixed_ (fun v26 => ⟨[(1, .ptr 0 0), (2, .kb false), (3, .own 1), (5, .ptr 2 0), (11, .own 3), (115, .bool (v26))], [(0, .box 26 [.int .i64 (a0), .int .i64 (a1), .int .i64 (a2), .int .i64 (a3), .int .i64 (a4), .sl (a5) 47 (a6), .int .i64 (a7)]), (1, .arr true 4 (v18.snd.snd.snd.fst) (v18.snd.snd.snd.snd)), (2, .box 26 [.int .i64 (v19.fst), .int .i64 (v19.snd.fst), .int .i64 (v19.snd.snd.fst), .int .i64 (v19.snd.snd.snd.fst), .int .i64 (v19.snd.snd.snd.snd.fst), .own 4, .int .i64 (v19.snd.snd.snd.snd.snd.fst)]), (3, .arr true 4 (v24.snd.snd.snd.fst) (v24.snd.snd.snd.snd)), (4, .arr false 47 (v19.snd.snd.snd.snd.snd.snd.snd.snd.snd.fst) (v19.snd.snd.snd.snd.snd.snd.snd.snd.snd.snd))], 5, [], []⟩) h (fun Q h => ?_) (fun v26 h => ?_)
      · conv => whnf
        refine XSplit.mk (fun e => ?_) (fun e => ?_)
        · replace h := XSplit.t h e
          conv => whnf
          refine ⟨_, Weak.a ?_, h⟩; (conv => whnf); exact ⟨rfl, rfl, rfl, rfl, rfl⟩
        · replace h := XSplit.f h e
          conv => whnf
          refine ACalls.inn (c_ref08_Same (W.bindE h) (fun v27 h => ?_)) ⟨rfl, rfl⟩
          conv => whnf
          refine ⟨_, Weak.a ?_, h⟩; (conv => whnf); exact ⟨rfl, rfl, rfl, rfl, rfl⟩
      · conv => whnf
        refine XSplit.mk (fun e => ?_) (fun e => ?_)
        · replace h := XSplit.t h e
          conv => whnf
          refine ⟨_, Weak.a ?_, ?_, h⟩; (conv => whnf); exact ⟨rfl, rfl, rfl, rfl, rfl⟩; exact rfl
        · replace h := XSplit.f h e
          conv => whnf
          refine ASeq.go tab_ok mixed_ ?_
          conv => whnf
          refine XNeed.mk (XNeed.c h) ?_; replace h := XNeed.x h
          conv => whnf
          refine ALoop.ofW tab_ok mixed_ (fun v28 => ⟨[(1, .ptr 0 0), (2, .kb false), (3, .own 1), (5, .ptr 2 0), (11, .own 3), (15, .int .i64 (v28.fst)), (117, .vw 1 (1) (((↑(List.length v18.snd.snd.snd.snd) : Int) - 1).toNat)), (118, .int .i64 ((↑((↑(List.length v18.snd.snd.snd.snd) : Int) - 1).toNat : Int))), (119, .int .i64 (v28.snd))], [(0, .box 26 [.int .i64 (a0), .int .i64 (a1), .int .i64 (a2), .int .i64 (a3), .int .i64 (a4), .sl (a5) 47 (a6), .int .i64 (a7)]), (1, .arr true 4 (v18.snd.snd.snd.fst) (v18.snd.snd.snd.snd)), (2, .box 26 [.int .i64 (v19.fst), .int .i64 (v19.snd.fst), .int .i64 (v19.snd.snd.fst), .int .i64 (v19.snd.snd.snd.fst), .int .i64 (v19.snd.snd.snd.snd.fst), .own 4, .int .i64 (v19.snd.snd.snd.snd.snd.fst)]), (3, .arr true 4 (v24.snd.snd.snd.fst) (v24.snd.snd.snd.snd)), (4, .arr false 47 (v19.snd.snd.snd.snd.snd.snd.snd.snd.snd.fst) (v19.snd.snd.snd.snd.snd.snd.snd.snd.snd.snd))], 5, [], []⟩) (fun v29 => (.exit 0, ⟨[(1, .ptr 0 0), (2, .kb false), (3, .own 1), (5, .ptr 2 0), (11, .own 3), (15, .int .i64 (v29))], [(0, .box 26 [.int .i64 (a0), .int .i64 (a1), .int .i64 (a2), .int .i64 (a3), .int .i64 (a4), .sl (a5) 47 (a6), .int .i64 (a7)]), (1, .arr true 4 (v18.snd.snd.snd.fst) (v18.snd.snd.snd.snd)), (2, .box 26 [.int .i64 (v19.fst), .int .i64 (v19.snd.fst), .int .i64 (v19.snd.snd.fst), .int .i64 (v19.snd.snd.snd.fst), .int .i64 (v19.snd.snd.snd.snd.fst), .own 4, .int .i64 (v19.snd.snd.snd.snd.snd.fst)]), (3, .arr true 4 (v24.snd.snd.snd.fst) (v24.snd.snd.snd.snd)), (4, .arr false 47 (v19.snd.snd.snd.snd.snd.snd.snd.snd.snd.fst) (v19.snd.snd.snd.snd.snd.snd.snd.snd.snd.snd))], 5, [], []⟩)) (W.bindE h) (Weak.a ?_) (fun v28 I Q h => ?_) (fun v29 h => ?_)
          · conv => whnf
            exact ⟨rfl, rfl, rfl, rfl, rfl⟩
          · conv => whnf
            refine ASeq.go tab_ok mixed_ ?_
            conv => whnf
            refine XSplit.mk (fun e => ?_) (fun e => ?_)
            · replace h := XSplit.t h e
              conv => whnf
              refine ASeq.joinW tab_ok mixed_ (fun v30 => ⟨[(1, .ptr 0 0), (2, .kb false), (3, .own 1), (5, .ptr 2 0), (11, .own 3), (15, .int .i64 (v30)), (17, .bool (rb v18.snd.snd.snd.snd (1 + v28.snd.toNat) 0)), (117, .vw 1 (1) (((↑(List.length v18.snd.snd.snd.snd) : Int) - 1).toNat)), (118, .int .i64 ((↑((↑(List.length v18.snd.snd.snd.snd) : Int) - 1).toNat : Int))), (119, .int .i64 (v28.snd)), (120, .bool (decide (v28.snd < (↑((↑(List.length v18.snd.snd.snd.snd) : Int) - 1).toNat : Int)))), (121, .elt 1 (1 + v28.snd.toNat) 0), (122, .bool (rb v18.snd.snd.snd.snd (1 + v28.snd.toNat) 0)), (123, .bool (rb v18.snd.snd.snd.snd (1 + v28.snd.toNat) 0))], [(0, .box 26 [.int .i64 (a0), .int .i64 (a1), .int .i64 (a2), .int .i64 (a3), .int .i64 (a4), .sl (a5) 47 (a6), .int .i64 (a7)]), (1, .arr true 4 (v18.snd.snd.snd.fst) (v18.snd.snd.snd.snd)), (2, .box 26 [.int .i64 (v19.fst), .int .i64 (v19.snd.fst), .int .i64 (v19.snd.snd.fst), .int .i64 (v19.snd.snd.snd.fst), .int .i64 (v19.snd.snd.snd.snd.fst), .own 4, .int .i64 (v19.snd.snd.snd.snd.snd.fst)]), (3, .arr true 4 (v24.snd.snd.snd.fst) (v24.snd.snd.snd.snd)), (4, .arr false 47 (v19.snd.snd.snd.snd.snd.snd.snd.snd.snd.fst) (v19.snd.snd.snd.snd.snd.snd.snd.snd.snd.snd))], 5, [], []⟩) h (fun Q h => ?_) (fun v30 h => ?_)
              · conv => whnf
                refine XNeed.mk (XNeed.c h) ?_; replace h := XNeed.x h
                conv => whnf
                refine XSplit.mk (fun e => ?_) (fun e => ?_)
                · replace h := XSplit.t h e
                  conv => whnf
                  refine ⟨_, Weak.a ?_, h⟩; (conv => whnf); exact ⟨rfl, rfl, rfl, rfl, rfl⟩
                · replace h := XSplit.f h e
                  conv => whnf
                  refine ⟨_, Weak.a ?_, h⟩; (conv => whnf); exact ⟨rfl, rfl, rfl, rfl, rfl⟩
              · conv => whnf
                refine ⟨_, Weak.a ?_, h⟩; (conv => whnf); exact ⟨rfl, rfl, rfl, rfl, rfl⟩
            · replace h := XSplit.f h e
              conv => whnf
              refine ⟨_, ?_, Weak.a ?_, h⟩; exact rfl; (conv => whnf); exact ⟨rfl, rfl, rfl, rfl, rfl⟩
          · conv => whnf
            refine ASeq.go tab_ok mixed_ ?_
            conv => whnf
            refine XNeed.mk (XNeed.c h) ?_; replace h := XNeed.x h
            conv => whnf
            refine ALoop.ofW tab_ok mixed_ (fun v31 => ⟨[(1, .ptr 0 0), (2, .kb false), (3, .own 1), (5, .ptr 2 0), (15, .int .i64 (v29)), (128, .vw 3 (1) (((↑(List.length v24.snd.snd.snd.snd) : Int) - 1).toNat)), (129, .int .i64 ((↑((↑(List.length v24.snd.snd.snd.snd) : Int) - 1).toNat : Int))), (130, .int .i64 (v31))], [(0, .box 26 [.int .i64 (a0), .int .i64 (a1), .int .i64 (a2), .int .i64 (a3), .int .i64 (a4), .sl (a5) 47 (a6), .int .i64 (a7)]), (1, .arr true 4 (v18.snd.snd.snd.fst) (v18.snd.snd.snd.snd)), (2, .box 26 [.int .i64 (v19.fst), .int .i64 (v19.snd.fst), .int .i64 (v19.snd.snd.fst), .int .i64 (v19.snd.snd.snd.fst), .int .i64 (v19.snd.snd.snd.snd.fst), .own 4, .int .i64 (v19.snd.snd.snd.snd.snd.fst)]), (3, .arr true 4 (v24.snd.snd.snd.fst) (v24.snd.snd.snd.snd)), (4, .arr false 47 (v19.snd.snd.snd.snd.snd.snd.snd.snd.snd.fst) (v19.snd.snd.snd.snd.snd.snd.snd.snd.snd.snd))], 5, [], []⟩) (sx (fun v32 => (.ret, ⟨[(1, .ptr 0 0), (2, .kb false), (3, .own 1), (5, .ptr 2 0), (15, .int .i64 (v29))], [(0, .box 26 [.int .i64 (a0), .int .i64 (a1), .int .i64 (a2), .int .i64 (a3), .int .i64 (a4), .sl (a5) 47 (a6), .int .i64 (a7)]), (1, .arr true 4 (v18.snd.snd.snd.fst) (v18.snd.snd.snd.snd)), (2, .box 26 [.int .i64 (v19.fst), .int .i64 (v19.snd.fst), .int .i64 (v19.snd.snd.fst), .int .i64 (v19.snd.snd.snd.fst), .int .i64 (v19.snd.snd.snd.snd.fst), .own 3, .int .i64 (v19.snd.snd.snd.snd.snd.fst)]), (3, .arr false 47 (v19.snd.snd.snd.snd.snd.snd.snd.snd.snd.fst) (v19.snd.snd.snd.snd.snd.snd.snd.snd.snd.snd))], 4, [], []⟩)) (fun v33 => (.exit 2, ⟨[(1, .ptr 0 0), (2, .kb false), (3, .own 1), (5, .ptr 2 0), (15, .int .i64 (v29))], [(0, .box 26 [.int .i64 (a0), .int .i64 (a1), .int .i64 (a2), .int .i64 (a3), .int .i64 (a4), .sl (a5) 47 (a6), .int .i64 (a7)]), (1, .arr true 4 (v18.snd.snd.snd.fst) (v18.snd.snd.snd.snd)), (2, .box 26 [.int .i64 (v19.fst), .int .i64 (v19.snd.fst), .int .i64 (v19.snd.snd.fst), .int .i64 (v19.snd.snd.snd.fst), .int .i64 (v19.snd.snd.snd.snd.fst), .own 3, .int .i64 (v19.snd.snd.snd.snd.snd.fst)]), (3, .arr false 47 (v19.snd.snd.snd.snd.snd.snd.snd.snd.snd.fst) (v19.snd.snd.snd.snd.snd.snd.snd.snd.snd.snd))], 4, [], []⟩))) (W.bindE h) (Weak.a ?_) (fun v31 I Q h => ?_) (fun v h => ?_)
            · conv => whnf
              exact ⟨rfl, rfl, rfl, rfl, rfl⟩
            · conv => whnf
              refine ASeq.go tab_ok mixed_ ?_
              conv => whnf
              refine XSplit.mk (fun e => ?_) (fun e => ?_)
              · replace h := XSplit.t h e
                conv => whnf
                refine ASeq.go tab_ok mixed_ ?_
                conv => whnf
                refine XNeed.mk (XNeed.c h) ?_; replace h := XNeed.x h
                conv => whnf
                refine XSplit.mk (fun e => ?_) (fun e => ?_)
                · replace h := XSplit.t h e
                  conv => whnf
                  refine ⟨_, ?_, Weak.a ?_, h⟩; exact rfl; (conv => whnf); exact ⟨rfl, rfl, rfl, rfl, rfl⟩
                · replace h := XSplit.f h e
                  conv => whnf
                  refine ⟨_, Weak.a ?_, h⟩; (conv => whnf); exact ⟨rfl, rfl, rfl, rfl, rfl⟩
              · replace h := XSplit.f h e
                conv => whnf
                refine ⟨_, ?_, Weak.a ?_, h⟩; exact rfl; (conv => whnf); exact ⟨rfl, rfl, rfl, rfl, rfl⟩
            · rcases v with v32 | v33
              · conv => whnf
                refine ⟨_, Weak.a ?_, ?_, h⟩; (conv => whnf); exact ⟨rfl, rfl, rfl, rfl, rfl⟩; exact rfl
              · conv => whnf
                refine XNeed.mk (XNeed.c h) ?_; replace h := XNeed.x h
                conv => whnf
                refine ⟨_, Weak.a ?_, ?_, h⟩; (conv => whnf); exact ⟨rfl, rfl, rfl, rfl, rfl⟩; exact rfl
end Go.Proofs.Ytalchibbmkhkpaa.V24
