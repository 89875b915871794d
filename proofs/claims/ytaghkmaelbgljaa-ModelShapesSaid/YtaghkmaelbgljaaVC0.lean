/- The functions are their pure forms. -/
import Derived.Test.YtaghkmaelbgljaaVS
import Derived.Test.YtaghkmaelbgljaaVX2
set_option linter.unusedVariables false
set_option linter.unusedSimpArgs false
set_option linter.unusedVariables false
set_option maxRecDepth 100000
set_option maxHeartbeats 0
namespace Go.Proofs.Ytaghkmaelbgljaa.V08
open Go.Proofs Go.Proofs.Ytaghkmaelbgljaa.VX
theorem c7 {a0 : Int} {a1 : Int} {a2 : Int} {a3 : Int} {a4 : Int} {a5 : Bool} {a6 : Rws} {a7 : Int} {Q : Int × Int × Int × Int × Int × Int × Bool × Rws → Prop} {R : AV → List AB → Prop} (h : (g_ref08_Copy a0 a1 a2 a3 a4 a5 a6 a7).run Q) (k : ∀ r, Q r → R (.agg [.int .i64 (r.fst), .int .i64 (r.snd.fst), .int .i64 (r.snd.snd.fst), .int .i64 (r.snd.snd.snd.fst), .int .i64 (r.snd.snd.snd.snd.fst), .own 0, .int .i64 (r.snd.snd.snd.snd.snd.fst)]) [.arr true 54 (r.snd.snd.snd.snd.snd.snd.fst) (r.snd.snd.snd.snd.snd.snd.snd)]) : ACalls Try.prog tab 7 [.agg [.int .i64 (a0), .int .i64 (a1), .int .i64 (a2), .int .i64 (a3), .int .i64 (a4), .sl (a5) 54 (a6), .int .i64 (a7)]] [] R := by
  refine ACalls.out (fun r => .agg [.int .i64 (r.fst), .int .i64 (r.snd.fst), .int .i64 (r.snd.snd.fst), .int .i64 (r.snd.snd.snd.fst), .int .i64 (r.snd.snd.snd.snd.fst), .own 0, .int .i64 (r.snd.snd.snd.snd.snd.fst)]) (fun r => [.arr true 54 (r.snd.snd.snd.snd.snd.snd.fst) (r.snd.snd.snd.snd.snd.snd.snd)]) (Q := Q) (ACalls.introX tab_ok mixed_ (fn := Try.f7) (by kernel_rfl) rfl (by kernel_rfl) (by kernel_rfl) (Nat.le_of_ble_eq_true rfl) ?_) (by intros; intro e; cases e) (by intros; intro e; cases e) k
  conv => whnf
  refine ASeq.go tab_ok mixed_ ?_
  conv => whnf
  refine ALoop.ofW tab_ok mixed_ (fun v2 => ⟨[(1, .ptr 0 0), (2, .ptr 1 0), (3, .own 2), (7, .sl (a5) 54 (a6)), (8, .int .i64 ((↑(List.length a6) : Int))), (9, .int .i64 (v2.fst))], [(0, .box 26 [.int .i64 (a0), .int .i64 (a1), .int .i64 (a2), .int .i64 (a3), .int .i64 (a4), .sl (a5) 54 (a6), .int .i64 (a7)]), (1, .box 26 [.int .i64 (0), .int .i64 (0), .int .i64 (0), .int .i64 (0), .int .i64 (0), .nils, .int .i64 (0)]), (2, .arr true 54 (v2.snd.fst) (v2.snd.snd))], 3, [], []⟩) (fun v3 => (.exit 0, ⟨[(1, .ptr 0 0), (2, .ptr 1 0), (3, .own 2)], [(0, .box 26 [.int .i64 (a0), .int .i64 (a1), .int .i64 (a2), .int .i64 (a3), .int .i64 (a4), .sl (a5) 54 (a6), .int .i64 (a7)]), (1, .box 26 [.int .i64 (0), .int .i64 (0), .int .i64 (0), .int .i64 (0), .int .i64 (0), .nils, .int .i64 (0)]), (2, .arr true 54 (v3.fst) (v3.snd))], 3, [], []⟩)) (W.bindE h) (Weak.a ?_) (fun v2 I Q h => ?_) (fun v3 h => ?_)
  · conv => whnf
    exact ⟨rfl, rfl, rfl, rfl, rfl⟩
  · conv => whnf
    refine ASeq.go tab_ok mixed_ ?_
    conv => whnf
    refine XSplit.mk (fun e => ?_) (fun e => ?_)
    · replace h := XSplit.t h e
      conv => whnf
      refine ASeq.go tab_ok mixed_ ?_
      conv => whnf
      refine XNeed.mk (XNeed.c h) ?_; replace h := XNeed.x h
      conv => whnf
      refine XNeed.mk (XNeed.c h) ?_; replace h := XNeed.x h
      conv => whnf
      refine XNeed.mk (XNeed.c h) ?_; replace h := XNeed.x h
      conv => whnf
      refine XNeed.mk (XNeed.c h) ?_; replace h := XNeed.x h
      conv => whnf
      refine ⟨_, Weak.a ?_, h⟩; (conv => whnf); exact ⟨rfl, rfl, rfl, rfl, rfl⟩
    · replace h := XSplit.f h e
      conv => whnf
      refine ⟨_, ?_, Weak.a ?_, h⟩; exact rfl; (conv => whnf); exact ⟨rfl, rfl, rfl, rfl, rfl⟩
  · conv => whnf
    refine ⟨_, Weak.a ?_, h⟩; (conv => whnf); exact ⟨rfl, rfl, rfl, rfl, rfl⟩

theorem c28 {a0 : Int} {Q : Bool → Prop} {R : AV → List AB → Prop} (h : (g_ref05_dim a0).run Q) (k : ∀ r, Q r → R (.bool (r)) []) : ACalls Try.prog tab 28 [.int .i64 (a0)] [] R := by
  refine ACalls.out (fun r => .bool (r)) (fun r => []) (Q := Q) (ACalls.introX tab_ok mixed_ (fn := Try.f28) (by kernel_rfl) rfl (by kernel_rfl) (by kernel_rfl) (Nat.le_of_ble_eq_true rfl) ?_) (by intros; intro e; cases e) (by intros; intro e; cases e) k
  conv => whnf
  refine ⟨_, Weak.a ?_, h⟩; (conv => whnf); exact ⟨rfl, rfl, rfl, rfl, rfl⟩

theorem c20 {a0 : Int} {a1 : Int} {a2 : Int} {Q : Bool → Prop} {R : AV → List AB → Prop} (h : (g_ref05_Valid a0 a1 a2).run Q) (k : ∀ r, Q r → R (.bool (r)) []) : ACalls Try.prog tab 20 [.agg [.int .i64 (a0), .int .i64 (a1), .int .i64 (a2)]] [] R := by
  refine ACalls.out (fun r => .bool (r)) (fun r => []) (Q := Q) (ACalls.introX tab_ok mixed_ (fn := Try.f20) (by kernel_rfl) rfl (by kernel_rfl) (by kernel_rfl) (Nat.le_of_ble_eq_true rfl) ?_) (by intros; intro e; cases e) (by intros; intro e; cases e) k
  conv => whnf
  refine ASeq.joinW tab_ok mixed_ (fun v4 => ⟨[(2, .bool (v4))], [], 0, [], []⟩) h (fun Q h => ?_) (fun v4 h => ?_)
  · conv => whnf
    refine ACalls.inn (c28 (W.bindE h) (fun v5 h => ?_)) rfl
    conv => whnf
    refine XSplit.mk (fun e => ?_) (fun e => ?_)
    · replace h := XSplit.t h e
      conv => whnf
      refine ACalls.inn (c28 (W.bindE h) (fun v6 h => ?_)) rfl
      conv => whnf
      refine XSplit.mk (fun e => ?_) (fun e => ?_)
      · replace h := XSplit.t h e
        conv => whnf
        refine ACalls.inn (c28 (W.bindE h) (fun v7 h => ?_)) rfl
        conv => whnf
        refine ⟨_, Weak.a ?_, h⟩; (conv => whnf); exact ⟨rfl, rfl, rfl, rfl, rfl⟩
      · replace h := XSplit.f h e
        conv => whnf
        refine ⟨_, Weak.a ?_, h⟩; (conv => whnf); exact ⟨rfl, rfl, rfl, rfl, rfl⟩
    · replace h := XSplit.f h e
      conv => whnf
      refine ⟨_, Weak.a ?_, h⟩; (conv => whnf); exact ⟨rfl, rfl, rfl, rfl, rfl⟩
  · conv => whnf
    refine ⟨_, Weak.a ?_, h⟩; (conv => whnf); exact ⟨rfl, rfl, rfl, rfl, rfl⟩

theorem c21 {a0 : Int} {Q : Bool → Prop} {R : AV → List AB → Prop} (h : (g_ref08_values a0).run Q) (k : ∀ r, Q r → R (.bool (r)) []) : ACalls Try.prog tab 21 [.int .i64 (a0)] [] R := by
  refine ACalls.out (fun r => .bool (r)) (fun r => []) (Q := Q) (ACalls.introX tab_ok mixed_ (fn := Try.f21) (by kernel_rfl) rfl (by kernel_rfl) (by kernel_rfl) (Nat.le_of_ble_eq_true rfl) ?_) (by intros; intro e; cases e) (by intros; intro e; cases e) k
  conv => whnf
  refine ⟨_, Weak.a ?_, h⟩; (conv => whnf); exact ⟨rfl, rfl, rfl, rfl, rfl⟩

theorem c38 {a0 : Int} {Q : Bool → Prop} {R : AV → List AB → Prop} (h : (g_ref08_Weighs a0).run Q) (k : ∀ r, Q r → R (.bool (r)) []) : ACalls Try.prog tab 38 [.int .i64 (a0)] [] R := by
  refine ACalls.out (fun r => .bool (r)) (fun r => []) (Q := Q) (ACalls.introX tab_ok mixed_ (fn := Try.f38) (by kernel_rfl) rfl (by kernel_rfl) (by kernel_rfl) (Nat.le_of_ble_eq_true rfl) ?_) (by intros; intro e; cases e) (by intros; intro e; cases e) k
  conv => whnf
  refine ⟨_, Weak.a ?_, h⟩; (conv => whnf); exact ⟨rfl, rfl, rfl, rfl, rfl⟩

theorem c33 {a0 : Int} {Q : Bool → Prop} {R : AV → List AB → Prop} (h : (g_ref08_Scales a0).run Q) (k : ∀ r, Q r → R (.bool (r)) []) : ACalls Try.prog tab 33 [.int .i64 (a0)] [] R := by
  refine ACalls.out (fun r => .bool (r)) (fun r => []) (Q := Q) (ACalls.introX tab_ok mixed_ (fn := Try.f33) (by kernel_rfl) rfl (by kernel_rfl) (by kernel_rfl) (Nat.le_of_ble_eq_true rfl) ?_) (by intros; intro e; cases e) (by intros; intro e; cases e) k
  conv => whnf
  refine ⟨_, Weak.a ?_, h⟩; (conv => whnf); exact ⟨rfl, rfl, rfl, rfl, rfl⟩

theorem c39 {a0 : Int} {Q : Bool → Prop} {R : AV → List AB → Prop} (h : (g_ref08_Slides a0).run Q) (k : ∀ r, Q r → R (.bool (r)) []) : ACalls Try.prog tab 39 [.int .i64 (a0)] [] R := by
  refine ACalls.out (fun r => .bool (r)) (fun r => []) (Q := Q) (ACalls.introX tab_ok mixed_ (fn := Try.f39) (by kernel_rfl) rfl (by kernel_rfl) (by kernel_rfl) (Nat.le_of_ble_eq_true rfl) ?_) (by intros; intro e; cases e) (by intros; intro e; cases e) k
  conv => whnf
  refine ⟨_, Weak.a ?_, h⟩; (conv => whnf); exact ⟨rfl, rfl, rfl, rfl, rfl⟩

theorem c29 {a0 : Int} {a1 : Int} {a2 : Int} {a3 : Int} {a4 : Int} {a5 : Int} {a6 : Int} {a7 : Int} {a8 : Int} {a9 : Int} {a10 : Int} {a11 : Int} {a12 : Bool} {a13 : Rws} {a14 : Bool} {a15 : Rws} {a16 : Int} {a17 : Int} {a18 : Int} {a19 : Int} {a20 : Int} {a21 : Int} {a22 : Int} {a23 : Int} {Q : Bool → Prop} {R : AV → List AB → Prop} (h : (g_ref08_spare a0 a1 a2 a3 a4 a5 a6 a7 a8 a9 a10 a11 a12 a13 a14 a15 a16 a17 a18 a19 a20 a21 a22 a23).run Q) (k : ∀ r, Q r → R (.bool (r)) []) : ACalls Try.prog tab 29 [.agg [.int .i64 (a0), .int .i64 (a1), .int .i64 (a2), .int .i64 (a3), .int .i64 (a4), .int .i64 (a5), .int .i64 (a6), .int .i64 (a7), .int .i64 (a8), .int .i64 (a9), .int .i64 (a10), .int .i64 (a11), .sl (a12) 76 (a13), .sl (a14) 21 (a15), .int .i64 (a16), .int .i64 (a17), .int .i64 (a18), .int .i64 (a19), .int .i64 (a20), .int .i64 (a21), .int .i64 (a22), .int .i64 (a23)]] [] R := by
  refine ACalls.out (fun r => .bool (r)) (fun r => []) (Q := Q) (ACalls.introX tab_ok mixed_ (fn := Try.f29) (by kernel_rfl) rfl (by kernel_rfl) (by kernel_rfl) (Nat.le_of_ble_eq_true rfl) ?_) (by intros; intro e; cases e) (by intros; intro e; cases e) k
  conv => whnf
  refine ASeq.go tab_ok mixed_ ?_
  conv => whnf
  refine XSplit.mk (fun e => ?_) (fun e => ?_)
  · replace h := XSplit.t h e
    conv => whnf
    refine ⟨_, Weak.a ?_, h⟩; (conv => whnf); exact ⟨rfl, rfl, rfl, rfl, rfl⟩
  · replace h := XSplit.f h e
    conv => whnf
    refine ASeq.go tab_ok mixed_ ?_
    conv => whnf
    refine ASeq.joinW tab_ok mixed_ (fun v4 => ⟨[(1, .ptr 0 0), (2, .kb false), (3, .ptr 1 0), (60, .bool (v4))], [(0, .box 54 [.int .i64 (a0), .int .i64 (a1), .int .i64 (a2), .int .i64 (a3), .int .i64 (a4), .int .i64 (a5), .int .i64 (a6), .int .i64 (a7), .int .i64 (a8), .int .i64 (a9), .int .i64 (a10), .int .i64 (a11), .sl (a12) 76 (a13), .sl (a14) 21 (a15), .int .i64 (a16), .int .i64 (a17), .int .i64 (a18), .int .i64 (a19), .int .i64 (a20), .int .i64 (a21), .int .i64 (a22), .int .i64 (a23)]), (1, .box 48 [.int .i64 (a4), .int .i64 (a5), .int .i64 (a6), .int .i64 (a7), .int .i64 (a8), .int .i64 (a9), .int .i64 (a10), .int .i64 (a11)])], 2, [], []⟩) h (fun Q h => ?_) (fun v4 h => ?_)
    · conv => whnf
      refine XSplit.mk (fun e => ?_) (fun e => ?_)
      · replace h := XSplit.t h e
        conv => whnf
        refine ⟨_, Weak.a ?_, h⟩; (conv => whnf); exact ⟨rfl, rfl, rfl, rfl, rfl⟩
      · replace h := XSplit.f h e
        conv => whnf
        refine ACalls.inn (c38 (W.bindE h) (fun v5 h => ?_)) rfl
        conv => whnf
        refine XSplit.mk (fun e => ?_) (fun e => ?_)
        · replace h := XSplit.t h e
          conv => whnf
          refine ⟨_, Weak.a ?_, h⟩; (conv => whnf); exact ⟨rfl, rfl, rfl, rfl, rfl⟩
        · replace h := XSplit.f h e
          conv => whnf
          refine ACalls.inn (c33 (W.bindE h) (fun v6 h => ?_)) rfl
          conv => whnf
          refine ⟨_, Weak.a ?_, h⟩; (conv => whnf); exact ⟨rfl, rfl, rfl, rfl, rfl⟩
    · conv => whnf
      refine XSplit.mk (fun e => ?_) (fun e => ?_)
      · replace h := XSplit.t h e
        conv => whnf
        refine ⟨_, Weak.a ?_, h⟩; (conv => whnf); exact ⟨rfl, rfl, rfl, rfl, rfl⟩
      · replace h := XSplit.f h e
        conv => whnf
        refine ASeq.go tab_ok mixed_ ?_
        conv => whnf
        refine ACalls.inn (c39 (W.bindE h) (fun v7 h => ?_)) rfl
        conv => whnf
        refine XSplit.mk (fun e => ?_) (fun e => ?_)
        · replace h := XSplit.t h e
          conv => whnf
          refine ⟨_, Weak.a ?_, h⟩; (conv => whnf); exact ⟨rfl, rfl, rfl, rfl, rfl⟩
        · replace h := XSplit.f h e
          conv => whnf
          refine ⟨_, Weak.a ?_, h⟩; (conv => whnf); exact ⟨rfl, rfl, rfl, rfl, rfl⟩

theorem c49 {a0 : Int} {a1 : Int} {a2 : Int} {Q : Bool → Prop} {R : AV → List AB → Prop} (h : (g_ref06_in a0 a1 a2).run Q) (k : ∀ r, Q r → R (.bool (r)) []) : ACalls Try.prog tab 49 [.int .i64 (a0), .int .i64 (a1), .int .i64 (a2)] [] R := by
  refine ACalls.out (fun r => .bool (r)) (fun r => []) (Q := Q) (ACalls.introX tab_ok mixed_ (fn := Try.f49) (by kernel_rfl) rfl (by kernel_rfl) (by kernel_rfl) (Nat.le_of_ble_eq_true rfl) ?_) (by intros; intro e; cases e) (by intros; intro e; cases e) k
  conv => whnf
  refine ⟨_, Weak.a ?_, h⟩; (conv => whnf); exact ⟨rfl, rfl, rfl, rfl, rfl⟩

theorem c47 {a0 : Int} {a1 : Int} {a2 : Int} {a3 : Int} {a4 : Int} {a5 : Int} {a6 : Int} {a7 : Int} {Q : Bool → Prop} {R : AV → List AB → Prop} (h : (g_ref06_Valid a0 a1 a2 a3 a4 a5 a6 a7).run Q) (k : ∀ r, Q r → R (.bool (r)) []) : ACalls Try.prog tab 47 [.agg [.int .i64 (a0), .int .i64 (a1), .int .i64 (a2), .int .i64 (a3), .int .i64 (a4), .int .i64 (a5), .int .i64 (a6), .int .i64 (a7)]] [] R := by
  refine ACalls.out (fun r => .bool (r)) (fun r => []) (Q := Q) (ACalls.introX tab_ok mixed_ (fn := Try.f47) (by kernel_rfl) rfl (by kernel_rfl) (by kernel_rfl) (Nat.le_of_ble_eq_true rfl) ?_) (by intros; intro e; cases e) (by intros; intro e; cases e) k
  conv => whnf
  refine ASeq.joinW tab_ok mixed_ (fun v9 => ⟨[(2, .bool (v9))], [], 0, [], []⟩) h (fun Q h => ?_) (fun v9 h => ?_)
  · conv => whnf
    refine ACalls.inn (c49 (W.bindE h) (fun v10 h => ?_)) rfl
    conv => whnf
    refine XSplit.mk (fun e => ?_) (fun e => ?_)
    · replace h := XSplit.t h e
      conv => whnf
      refine ACalls.inn (c49 (W.bindE h) (fun v11 h => ?_)) rfl
      conv => whnf
      refine XSplit.mk (fun e => ?_) (fun e => ?_)
      · replace h := XSplit.t h e
        conv => whnf
        refine ACalls.inn (c49 (W.bindE h) (fun v12 h => ?_)) rfl
        conv => whnf
        refine XSplit.mk (fun e => ?_) (fun e => ?_)
        · replace h := XSplit.t h e
          conv => whnf
          refine ACalls.inn (c49 (W.bindE h) (fun v13 h => ?_)) rfl
          conv => whnf
          refine XSplit.mk (fun e => ?_) (fun e => ?_)
          · replace h := XSplit.t h e
            conv => whnf
            refine ACalls.inn (c49 (W.bindE h) (fun v14 h => ?_)) rfl
            conv => whnf
            refine XSplit.mk (fun e => ?_) (fun e => ?_)
            · replace h := XSplit.t h e
              conv => whnf
              refine ACalls.inn (c49 (W.bindE h) (fun v15 h => ?_)) rfl
              conv => whnf
              refine XSplit.mk (fun e => ?_) (fun e => ?_)
              · replace h := XSplit.t h e
                conv => whnf
                refine ACalls.inn (c49 (W.bindE h) (fun v16 h => ?_)) rfl
                conv => whnf
                refine XSplit.mk (fun e => ?_) (fun e => ?_)
                · replace h := XSplit.t h e
                  conv => whnf
                  refine ACalls.inn (c49 (W.bindE h) (fun v17 h => ?_)) rfl
                  conv => whnf
                  refine ⟨_, Weak.a ?_, h⟩; (conv => whnf); exact ⟨rfl, rfl, rfl, rfl, rfl⟩
                · replace h := XSplit.f h e
                  conv => whnf
                  refine ⟨_, Weak.a ?_, h⟩; (conv => whnf); exact ⟨rfl, rfl, rfl, rfl, rfl⟩
              · replace h := XSplit.f h e
                conv => whnf
                refine ⟨_, Weak.a ?_, h⟩; (conv => whnf); exact ⟨rfl, rfl, rfl, rfl, rfl⟩
            · replace h := XSplit.f h e
              conv => whnf
              refine ⟨_, Weak.a ?_, h⟩; (conv => whnf); exact ⟨rfl, rfl, rfl, rfl, rfl⟩
          · replace h := XSplit.f h e
            conv => whnf
            refine ⟨_, Weak.a ?_, h⟩; (conv => whnf); exact ⟨rfl, rfl, rfl, rfl, rfl⟩
        · replace h := XSplit.f h e
          conv => whnf
          refine ⟨_, Weak.a ?_, h⟩; (conv => whnf); exact ⟨rfl, rfl, rfl, rfl, rfl⟩
      · replace h := XSplit.f h e
        conv => whnf
        refine ⟨_, Weak.a ?_, h⟩; (conv => whnf); exact ⟨rfl, rfl, rfl, rfl, rfl⟩
    · replace h := XSplit.f h e
      conv => whnf
      refine ⟨_, Weak.a ?_, h⟩; (conv => whnf); exact ⟨rfl, rfl, rfl, rfl, rfl⟩
  · conv => whnf
    refine ⟨_, Weak.a ?_, h⟩; (conv => whnf); exact ⟨rfl, rfl, rfl, rfl, rfl⟩

theorem c48 {a0 : Int} {a1 : Int} {a2 : Int} {Q : Int → Prop} {R : AV → List AB → Prop} (h : (g_ref06_count a0 a1 a2).run Q) (k : ∀ r, Q r → R (.int .i64 (r)) []) : ACalls Try.prog tab 48 [.int .i64 (a0), .int .i64 (a1), .int .i64 (a2)] [] R := by
  refine ACalls.out (fun r => .int .i64 (r)) (fun r => []) (Q := Q) (ACalls.introX tab_ok mixed_ (fn := Try.f48) (by kernel_rfl) rfl (by kernel_rfl) (by kernel_rfl) (Nat.le_of_ble_eq_true rfl) ?_) (by intros; intro e; cases e) (by intros; intro e; cases e) k
  conv => whnf
  refine ASeq.go tab_ok mixed_ ?_
  conv => whnf
  refine ALoop.ofW tab_ok mixed_ (fun v2 => ⟨[(0, .int .i64 (a0)), (1, .int .i64 (a1)), (2, .int .i64 (a2)), (6, .int .i64 (0)), (7, .int .i64 (v2.fst)), (8, .int .i64 (v2.snd))], [], 0, [], []⟩) (fun v3 => (.exit 0, ⟨[(6, .int .i64 (0)), (7, .int .i64 (v3))], [], 0, [], []⟩)) (W.bindE h) (Weak.a ?_) (fun v2 I Q h => ?_) (fun v3 h => ?_)
  · conv => whnf
    exact ⟨rfl, rfl, rfl, rfl, rfl⟩
  · conv => whnf
    refine ASeq.go tab_ok mixed_ ?_
    conv => whnf
    refine XSplit.mk (fun e => ?_) (fun e => ?_)
    · replace h := XSplit.t h e
      conv => whnf
      refine ASeq.go tab_ok mixed_ ?_
      conv => whnf
      refine ⟨_, Weak.a ?_, h⟩; (conv => whnf); exact ⟨rfl, rfl, rfl, rfl, rfl⟩
    · replace h := XSplit.f h e
      conv => whnf
      refine ⟨_, ?_, Weak.a ?_, h⟩; exact rfl; (conv => whnf); exact ⟨rfl, rfl, rfl, rfl, rfl⟩
  · conv => whnf
    refine ⟨_, Weak.a ?_, h⟩; (conv => whnf); exact ⟨rfl, rfl, rfl, rfl, rfl⟩

theorem c40 {a0 : Int} {a1 : Int} {a2 : Int} {a3 : Int} {a4 : Int} {a5 : Int} {a6 : Int} {a7 : Int} {a8 : Int} {a9 : Int} {a10 : Int} {Q : Int × Int × Int → Prop} {R : AV → List AB → Prop} (h : (g_ref06_Out a0 a1 a2 a3 a4 a5 a6 a7 a8 a9 a10).run Q) (k : ∀ r, Q r → R (.tup [.int .i64 (r.fst), .int .i64 (r.snd.fst), .int .i64 (r.snd.snd)]) []) : ACalls Try.prog tab 40 [.agg [.int .i64 (a0), .int .i64 (a1), .int .i64 (a2)], .agg [.int .i64 (a3), .int .i64 (a4), .int .i64 (a5), .int .i64 (a6), .int .i64 (a7), .int .i64 (a8), .int .i64 (a9), .int .i64 (a10)]] [] R := by
  refine ACalls.out (fun r => .tup [.int .i64 (r.fst), .int .i64 (r.snd.fst), .int .i64 (r.snd.snd)]) (fun r => []) (Q := Q) (ACalls.introX tab_ok mixed_ (fn := Try.f40) (by kernel_rfl) rfl (by kernel_rfl) (by kernel_rfl) (Nat.le_of_ble_eq_true rfl) ?_) (by intros; intro e; cases e) (by intros; intro e; cases e) k
  conv => whnf
  refine ASeq.go tab_ok mixed_ ?_
  conv => whnf
  refine ACalls.inn (c20 (W.bindE h) (fun v4 h => ?_)) rfl
  conv => whnf
  refine XSplit.mk (fun e => ?_) (fun e => ?_)
  · replace h := XSplit.t h e
    conv => whnf
    refine ⟨_, Weak.a ?_, h⟩; (conv => whnf); exact ⟨rfl, rfl, rfl, rfl, rfl⟩
  · replace h := XSplit.f h e
    conv => whnf
    refine ASeq.go tab_ok mixed_ ?_
    conv => whnf
    refine ACalls.inn (c47 (W.bindE h) (fun v5 h => ?_)) rfl
    conv => whnf
    refine XSplit.mk (fun e => ?_) (fun e => ?_)
    · replace h := XSplit.t h e
      conv => whnf
      refine ⟨_, Weak.a ?_, h⟩; (conv => whnf); exact ⟨rfl, rfl, rfl, rfl, rfl⟩
    · replace h := XSplit.f h e
      conv => whnf
      refine ACalls.inn (c48 (W.bindE h) (fun v6 h => ?_)) rfl
      conv => whnf
      refine ACalls.inn (c48 (W.bindE h) (fun v7 h => ?_)) rfl
      conv => whnf
      refine ASeq.go tab_ok mixed_ ?_
      conv => whnf
      refine XSplit.mk (fun e => ?_) (fun e => ?_)
      · replace h := XSplit.t h e
        conv => whnf
        refine ⟨_, Weak.a ?_, h⟩; (conv => whnf); exact ⟨rfl, rfl, rfl, rfl, rfl⟩
      · replace h := XSplit.f h e
        conv => whnf
        refine ⟨_, Weak.a ?_, h⟩; (conv => whnf); exact ⟨rfl, rfl, rfl, rfl, rfl⟩

theorem c30 {a0 : Int} {a1 : Int} {a2 : Int} {a3 : Int} {a4 : Int} {a5 : Int} {a6 : Int} {a7 : Int} {a8 : Int} {a9 : Int} {a10 : Int} {a11 : Int} {a12 : Bool} {a13 : Rws} {a14 : Bool} {a15 : Rws} {a16 : Int} {a17 : Int} {a18 : Int} {a19 : Int} {a20 : Int} {a21 : Int} {a22 : Int} {a23 : Int} {a24 : Int} {a25 : Int} {a26 : Int} {Q : Int × Int × Int × Int → Prop} {R : AV → List AB → Prop} (h : (g_ref08_Makes a0 a1 a2 a3 a4 a5 a6 a7 a8 a9 a10 a11 a12 a13 a14 a15 a16 a17 a18 a19 a20 a21 a22 a23 a24 a25 a26).run Q) (k : ∀ r, Q r → R (.tup [.agg [.int .i64 (r.fst), .int .i64 (r.snd.fst), .int .i64 (r.snd.snd.fst)], .int .i64 (r.snd.snd.snd)]) []) : ACalls Try.prog tab 30 [.agg [.int .i64 (a0), .int .i64 (a1), .int .i64 (a2), .int .i64 (a3), .int .i64 (a4), .int .i64 (a5), .int .i64 (a6), .int .i64 (a7), .int .i64 (a8), .int .i64 (a9), .int .i64 (a10), .int .i64 (a11), .sl (a12) 76 (a13), .sl (a14) 21 (a15), .int .i64 (a16), .int .i64 (a17), .int .i64 (a18), .int .i64 (a19), .int .i64 (a20), .int .i64 (a21), .int .i64 (a22), .int .i64 (a23)], .agg [.int .i64 (a24), .int .i64 (a25), .int .i64 (a26)]] [] R := by
  refine ACalls.out (fun r => .tup [.agg [.int .i64 (r.fst), .int .i64 (r.snd.fst), .int .i64 (r.snd.snd.fst)], .int .i64 (r.snd.snd.snd)]) (fun r => []) (Q := Q) (ACalls.introX tab_ok mixed_ (fn := Try.f30) (by kernel_rfl) rfl (by kernel_rfl) (by kernel_rfl) (Nat.le_of_ble_eq_true rfl) ?_) (by intros; intro e; cases e) (by intros; intro e; cases e) k
  conv => whnf
  refine ASeq.joinW tab_ok mixed_ (fun v4 => ⟨[(2, .ptr 0 0), (3, .ptr 1 0), (4, .ptr 2 0), (5, .int .i64 (0)), (6, .ptr 3 0)], [(0, .box 54 [.int .i64 (a0), .int .i64 (a1), .int .i64 (a2), .int .i64 (a3), .int .i64 (a4), .int .i64 (a5), .int .i64 (a6), .int .i64 (a7), .int .i64 (a8), .int .i64 (a9), .int .i64 (a10), .int .i64 (a11), .sl (a12) 76 (a13), .sl (a14) 21 (a15), .int .i64 (a16), .int .i64 (a17), .int .i64 (a18), .int .i64 (a19), .int .i64 (a20), .int .i64 (a21), .int .i64 (a22), .int .i64 (a23)]), (1, .box 23 [.int .i64 (a24), .int .i64 (a25), .int .i64 (a26)]), (2, .box 23 [.int .i64 (0), .int .i64 (0), .int .i64 (0)]), (3, .box 23 [.int .i64 (v4.fst), .int .i64 (v4.snd.fst), .int .i64 (v4.snd.snd)])], 4, [], []⟩) h (fun Q h => ?_) (fun v4 h => ?_)
  · conv => whnf
    refine XSplit.mk (fun e => ?_) (fun e => ?_)
    · replace h := XSplit.t h e
      conv => whnf
      refine ⟨_, Weak.a ?_, h⟩; (conv => whnf); exact ⟨rfl, rfl, rfl, rfl, rfl⟩
    · replace h := XSplit.f h e
      conv => whnf
      refine ⟨_, Weak.a ?_, h⟩; (conv => whnf); exact ⟨rfl, rfl, rfl, rfl, rfl⟩
  · conv => whnf
    refine ASeq.joinE tab_ok mixed_ (fun v5 => ⟨[(4, .ptr 0 0), (5, .int .i64 (0)), (6, .ptr 1 0)], [(0, .box 23 [.int .i64 (0), .int .i64 (0), .int .i64 (0)]), (1, .box 23 [.int .i64 (v5.fst), .int .i64 (v5.snd.fst), .int .i64 (v5.snd.snd)])], 2, [], []⟩) h (fun Q h => ?_) (fun v5 h => ?_)
    · conv => whnf
      refine ACalls.inn (c39 (W.bindE h) (fun v6 h => ?_)) rfl
      conv => whnf
      refine XSplit.mk (fun e => ?_) (fun e => ?_)
      · replace h := XSplit.t h e
        conv => whnf
        refine ACalls.inn (c40 (W.bindE h) (fun v7 h => ?_)) rfl
        conv => whnf
        refine ASeq.go tab_ok mixed_ ?_
        conv => whnf
        refine XSplit.mk (fun e => ?_) (fun e => ?_)
        · replace h := XSplit.t h e
          conv => whnf
          refine ⟨_, Weak.a ?_, h⟩; (conv => whnf); exact ⟨rfl, rfl, rfl, rfl, rfl⟩
        · replace h := XSplit.f h e
          conv => whnf
          refine XSplit.mk (fun e => ?_) (fun e => ?_)
          · replace h := XSplit.t h e
            conv => whnf
            refine ⟨_, Weak.a ?_, h⟩; (conv => whnf); exact ⟨rfl, rfl, rfl, rfl, rfl⟩
          · replace h := XSplit.f h e
            conv => whnf
            refine ⟨_, Weak.a ?_, h⟩; (conv => whnf); exact ⟨rfl, rfl, rfl, rfl, rfl⟩
      · replace h := XSplit.f h e
        conv => whnf
        refine ⟨_, Weak.a ?_, h⟩; (conv => whnf); exact ⟨rfl, rfl, rfl, rfl, rfl⟩
    · conv => whnf
      refine ⟨_, Weak.a ?_, h⟩; (conv => whnf); exact ⟨rfl, rfl, rfl, rfl, rfl⟩

theorem c16 {a0 : Int} {Q : Bool → Prop} {R : AV → List AB → Prop} (h : (g_ref08_Reduces a0).run Q) (k : ∀ r, Q r → R (.bool (r)) []) : ACalls Try.prog tab 16 [.int .i64 (a0)] [] R := by
  refine ACalls.out (fun r => .bool (r)) (fun r => []) (Q := Q) (ACalls.introX tab_ok mixed_ (fn := Try.f16) (by kernel_rfl) rfl (by kernel_rfl) (by kernel_rfl) (Nat.le_of_ble_eq_true rfl) ?_) (by intros; intro e; cases e) (by intros; intro e; cases e) k
  conv => whnf
  refine ⟨_, Weak.a ?_, h⟩; (conv => whnf); exact ⟨rfl, rfl, rfl, rfl, rfl⟩

theorem c31 {a0 : Int} {a1 : Int} {a2 : Int} {a3 : Int} {a4 : Int} {a5 : Int} {a6 : Int} {a7 : Int} {a8 : Int} {a9 : Int} {a10 : Int} {a11 : Int} {a12 : Bool} {a13 : Rws} {a14 : Bool} {a15 : Rws} {a16 : Int} {a17 : Int} {a18 : Int} {a19 : Int} {a20 : Int} {a21 : Int} {a22 : Int} {a23 : Int} {a24 : Int} {a25 : Int} {a26 : Int} {Q : Int → Prop} {R : AV → List AB → Prop} (h : (g_ref08_Length a0 a1 a2 a3 a4 a5 a6 a7 a8 a9 a10 a11 a12 a13 a14 a15 a16 a17 a18 a19 a20 a21 a22 a23 a24 a25 a26).run Q) (k : ∀ r, Q r → R (.int .i64 (r)) []) : ACalls Try.prog tab 31 [.agg [.int .i64 (a0), .int .i64 (a1), .int .i64 (a2), .int .i64 (a3), .int .i64 (a4), .int .i64 (a5), .int .i64 (a6), .int .i64 (a7), .int .i64 (a8), .int .i64 (a9), .int .i64 (a10), .int .i64 (a11), .sl (a12) 76 (a13), .sl (a14) 21 (a15), .int .i64 (a16), .int .i64 (a17), .int .i64 (a18), .int .i64 (a19), .int .i64 (a20), .int .i64 (a21), .int .i64 (a22), .int .i64 (a23)], .agg [.int .i64 (a24), .int .i64 (a25), .int .i64 (a26)]] [] R := by
  refine ACalls.out (fun r => .int .i64 (r)) (fun r => []) (Q := Q) (ACalls.introX tab_ok mixed_ (fn := Try.f31) (by kernel_rfl) rfl (by kernel_rfl) (by kernel_rfl) (Nat.le_of_ble_eq_true rfl) ?_) (by intros; intro e; cases e) (by intros; intro e; cases e) k
  conv => whnf
  refine ASeq.go tab_ok mixed_ ?_
  conv => whnf
  refine XSplit.mk (fun e => ?_) (fun e => ?_)
  · replace h := XSplit.t h e
    conv => whnf
    refine ⟨_, Weak.a ?_, h⟩; (conv => whnf); exact ⟨rfl, rfl, rfl, rfl, rfl⟩
  · replace h := XSplit.f h e
    conv => whnf
    refine XSplit.mk (fun e => ?_) (fun e => ?_)
    · replace h := XSplit.t h e
      conv => whnf
      refine ⟨_, Weak.a ?_, h⟩; (conv => whnf); exact ⟨rfl, rfl, rfl, rfl, rfl⟩
    · replace h := XSplit.f h e
      conv => whnf
      refine ⟨_, Weak.a ?_, h⟩; (conv => whnf); exact ⟨rfl, rfl, rfl, rfl, rfl⟩

theorem c32 {a0 : Int} {a1 : Int} {a2 : Int} {a3 : Int} {a4 : Int} {a5 : Int} {a6 : Int} {a7 : Int} {a8 : Int} {a9 : Int} {a10 : Int} {a11 : Int} {a12 : Bool} {a13 : Rws} {a14 : Bool} {a15 : Rws} {a16 : Int} {a17 : Int} {a18 : Int} {a19 : Int} {a20 : Int} {a21 : Int} {a22 : Int} {a23 : Int} {a24 : Int} {a25 : Int} {a26 : Int} {Q : Int × Int → Prop} {R : AV → List AB → Prop} (h : (g_ref08_Lists a0 a1 a2 a3 a4 a5 a6 a7 a8 a9 a10 a11 a12 a13 a14 a15 a16 a17 a18 a19 a20 a21 a22 a23 a24 a25 a26).run Q) (k : ∀ r, Q r → R (.tup [.int .i64 (r.fst), .int .i64 (r.snd)]) []) : ACalls Try.prog tab 32 [.agg [.int .i64 (a0), .int .i64 (a1), .int .i64 (a2), .int .i64 (a3), .int .i64 (a4), .int .i64 (a5), .int .i64 (a6), .int .i64 (a7), .int .i64 (a8), .int .i64 (a9), .int .i64 (a10), .int .i64 (a11), .sl (a12) 76 (a13), .sl (a14) 21 (a15), .int .i64 (a16), .int .i64 (a17), .int .i64 (a18), .int .i64 (a19), .int .i64 (a20), .int .i64 (a21), .int .i64 (a22), .int .i64 (a23)], .agg [.int .i64 (a24), .int .i64 (a25), .int .i64 (a26)]] [] R := by
  refine ACalls.out (fun r => .tup [.int .i64 (r.fst), .int .i64 (r.snd)]) (fun r => []) (Q := Q) (ACalls.introX tab_ok mixed_ (fn := Try.f32) (by kernel_rfl) rfl (by kernel_rfl) (by kernel_rfl) (Nat.le_of_ble_eq_true rfl) ?_) (by intros; intro e; cases e) (by intros; intro e; cases e) k
  conv => whnf
  refine ASeq.go tab_ok mixed_ ?_
  conv => whnf
  refine ASeq.joinW tab_ok mixed_ (fun v3 => ⟨[(2, .ptr 0 0), (3, .ptr 1 0), (4, .int .i64 (0)), (5, .int .i64 (0)), (7, .int .i64 (a0)), (8, .bool (v3))], [(0, .box 54 [.int .i64 (a0), .int .i64 (a1), .int .i64 (a2), .int .i64 (a3), .int .i64 (a4), .int .i64 (a5), .int .i64 (a6), .int .i64 (a7), .int .i64 (a8), .int .i64 (a9), .int .i64 (a10), .int .i64 (a11), .sl (a12) 76 (a13), .sl (a14) 21 (a15), .int .i64 (a16), .int .i64 (a17), .int .i64 (a18), .int .i64 (a19), .int .i64 (a20), .int .i64 (a21), .int .i64 (a22), .int .i64 (a23)]), (1, .box 23 [.int .i64 (a24), .int .i64 (a25), .int .i64 (a26)])], 2, [], []⟩) h (fun Q h => ?_) (fun v3 h => ?_)
  · conv => whnf
    refine XSplit.mk (fun e => ?_) (fun e => ?_)
    · replace h := XSplit.t h e
      conv => whnf
      refine ⟨_, Weak.a ?_, h⟩; (conv => whnf); exact ⟨rfl, rfl, rfl, rfl, rfl⟩
    · replace h := XSplit.f h e
      conv => whnf
      refine ⟨_, Weak.a ?_, h⟩; (conv => whnf); exact ⟨rfl, rfl, rfl, rfl, rfl⟩
  · conv => whnf
    refine XSplit.mk (fun e => ?_) (fun e => ?_)
    · replace h := XSplit.t h e
      conv => whnf
      refine XDraw.d [0, 1, 2, 3, 6, 7, 4, 5, 8, 9] (by decide +kernel) ?_
      conv => whnf
      refine ACalls.inn (c31 (W.bindE h) (fun v4 h => ?_)) rfl
      conv => whnf
      refine ⟨_, Weak.a ?_, h⟩; (conv => whnf); exact ⟨rfl, rfl, rfl, rfl, rfl⟩
    · replace h := XSplit.f h e
      conv => whnf
      refine XSplit.mk (fun e => ?_) (fun e => ?_)
      · replace h := XSplit.t h e
        conv => whnf
        refine XDraw.d [0, 1, 2, 3, 6, 7, 4, 5, 8, 9] (by decide +kernel) ?_
        conv => whnf
        refine ACalls.inn (c31 (W.bindE h) (fun v5 h => ?_)) rfl
        conv => whnf
        refine ⟨_, Weak.a ?_, h⟩; (conv => whnf); exact ⟨rfl, rfl, rfl, rfl, rfl⟩
      · replace h := XSplit.f h e
        conv => whnf
        refine ⟨_, Weak.a ?_, h⟩; (conv => whnf); exact ⟨rfl, rfl, rfl, rfl, rfl⟩

theorem c34 {a0 : Int} {a1 : Int} {Q : Bool → Prop} {R : AV → List AB → Prop} (h : (g_ref02_Valid a0 a1).run Q) (k : ∀ r, Q r → R (.bool (r)) []) : ACalls Try.prog tab 34 [.int .i64 (a0), .int .i64 (a1)] [] R := by
  refine ACalls.out (fun r => .bool (r)) (fun r => []) (Q := Q) (ACalls.introX tab_ok mixed_ (fn := Try.f34) (by kernel_rfl) rfl (by kernel_rfl) (by kernel_rfl) (Nat.le_of_ble_eq_true rfl) ?_) (by intros; intro e; cases e) (by intros; intro e; cases e) k
  conv => whnf
  refine ⟨_, Weak.a ?_, h⟩; (conv => whnf); exact ⟨rfl, rfl, rfl, rfl, rfl⟩

theorem c22 {a0 : Int} {a1 : Int} {a2 : Int} {a3 : Int} {a4 : Int} {a5 : Int} {a6 : Int} {a7 : Int} {a8 : Int} {a9 : Int} {a10 : Int} {a11 : Int} {a12 : Bool} {a13 : Rws} {a14 : Bool} {a15 : Rws} {a16 : Int} {a17 : Int} {a18 : Int} {a19 : Int} {a20 : Int} {a21 : Int} {a22 : Int} {a23 : Int} {a24 : Int} {a25 : Bool} {a26 : Rws} {Q : Int × Int × Int × Int → Prop} {R : AV → List AB → Prop} (h : (g_ref08_one a0 a1 a2 a3 a4 a5 a6 a7 a8 a9 a10 a11 a12 a13 a14 a15 a16 a17 a18 a19 a20 a21 a22 a23 a24 a25 a26).run Q) (k : ∀ r, Q r → R (.tup [.agg [.int .i64 (r.fst), .int .i64 (r.snd.fst), .int .i64 (r.snd.snd.fst)], .int .i64 (r.snd.snd.snd)]) []) : ACalls Try.prog tab 22 [.agg [.int .i64 (a0), .int .i64 (a1), .int .i64 (a2), .int .i64 (a3), .int .i64 (a4), .int .i64 (a5), .int .i64 (a6), .int .i64 (a7), .int .i64 (a8), .int .i64 (a9), .int .i64 (a10), .int .i64 (a11), .sl (a12) 76 (a13), .sl (a14) 21 (a15), .int .i64 (a16), .int .i64 (a17), .int .i64 (a18), .int .i64 (a19), .int .i64 (a20), .int .i64 (a21), .int .i64 (a22), .int .i64 (a23)], .int .i64 (a24), .sl (a25) 23 (a26)] [] R := by
  refine ACalls.out (fun r => .tup [.agg [.int .i64 (r.fst), .int .i64 (r.snd.fst), .int .i64 (r.snd.snd.fst)], .int .i64 (r.snd.snd.snd)]) (fun r => []) (Q := Q) (ACalls.introX tab_ok mixed_ (fn := Try.f22) (by kernel_rfl) rfl (by kernel_rfl) (by kernel_rfl) (Nat.le_of_ble_eq_true rfl) ?_) (by intros; intro e; cases e) (by intros; intro e; cases e) k
  conv => whnf
  refine ASeq.go tab_ok mixed_ ?_
  conv => whnf
  refine XSplit.mk (fun e => ?_) (fun e => ?_)
  · replace h := XSplit.t h e
    conv => whnf
    refine ⟨_, Weak.a ?_, h⟩; (conv => whnf); exact ⟨rfl, rfl, rfl, rfl, rfl⟩
  · replace h := XSplit.f h e
    conv => whnf
    refine ASeq.go tab_ok mixed_ ?_
    conv => whnf
    refine XSplit.mk (fun e => ?_) (fun e => ?_)
    · replace h := XSplit.t h e
      conv => whnf
      refine ⟨_, Weak.a ?_, h⟩; (conv => whnf); exact ⟨rfl, rfl, rfl, rfl, rfl⟩
    · replace h := XSplit.f h e
      conv => whnf
      refine ASeq.go tab_ok mixed_ ?_
      conv => whnf
      refine ACalls.inn (c29 (W.bindE h) (fun v18 h => ?_)) rfl
      conv => whnf
      refine XSplit.mk (fun e => ?_) (fun e => ?_)
      · replace h := XSplit.t h e
        conv => whnf
        refine ⟨_, Weak.a ?_, h⟩; (conv => whnf); exact ⟨rfl, rfl, rfl, rfl, rfl⟩
      · replace h := XSplit.f h e
        conv => whnf
        refine ASeq.go tab_ok mixed_ ?_
        conv => whnf
        refine XSplit.mk (fun e => ?_) (fun e => ?_)
        · replace h := XSplit.t h e
          conv => whnf
          refine ⟨_, Weak.a ?_, h⟩; (conv => whnf); exact ⟨rfl, rfl, rfl, rfl, rfl⟩
        · replace h := XSplit.f h e
          conv => whnf
          refine XNeed.mk (XNeed.c h) ?_; replace h := XNeed.x h
          conv => whnf
          refine ACalls.inn (c30 (W.bindE h) (fun v19 h => ?_)) rfl
          conv => whnf
          refine ASeq.go tab_ok mixed_ ?_
          conv => whnf
          refine XSplit.mk (fun e => ?_) (fun e => ?_)
          · replace h := XSplit.t h e
            conv => whnf
            refine ⟨_, Weak.a ?_, h⟩; (conv => whnf); exact ⟨rfl, rfl, rfl, rfl, rfl⟩
          · replace h := XSplit.f h e
            conv => whnf
            refine ASeq.go tab_ok mixed_ ?_
            conv => whnf
            refine ASeq.joinW tab_ok mixed_ (fun v20 => ⟨[(3, .ptr 0 0), (6, .ptr 1 0), (7, .int .i64 (0)), (8, .ptr 2 0), (9, .ptr 3 0), (97, .bool (v20))], [(0, .box 54 [.int .i64 (a0), .int .i64 (a1), .int .i64 (a2), .int .i64 (a3), .int .i64 (a4), .int .i64 (a5), .int .i64 (a6), .int .i64 (a7), .int .i64 (a8), .int .i64 (a9), .int .i64 (a10), .int .i64 (a11), .sl (a12) 76 (a13), .sl (a14) 21 (a15), .int .i64 (a16), .int .i64 (a17), .int .i64 (a18), .int .i64 (a19), .int .i64 (a20), .int .i64 (a21), .int .i64 (a22), .int .i64 (a23)]), (1, .box 23 [.int .i64 (0), .int .i64 (0), .int .i64 (0)]), (2, .box 23 [.int .i64 (ri a26 a1.toNat 0), .int .i64 (ri a26 a1.toNat 1), .int .i64 (ri a26 a1.toNat 2)]), (3, .box 23 [.int .i64 (v19.fst), .int .i64 (v19.snd.fst), .int .i64 (v19.snd.snd.fst)])], 4, [], []⟩) h (fun Q h => ?_) (fun v20 h => ?_)
            · conv => whnf
              refine XDraw.d [0, 1, 2, 3, 4, 5, 6, 7, 8, 9, 10, 11, 12, 13, 14, 15, 16] (by decide +kernel) ?_
              conv => whnf
              refine XNeed.mk (XNeed.c h) ?_; replace h := XNeed.x h
              conv => whnf
              refine XSplit.mk (fun e => ?_) (fun e => ?_)
              · replace h := XSplit.t h e
                conv => whnf
                refine ⟨_, Weak.a ?_, h⟩; (conv => whnf); exact ⟨rfl, rfl, rfl, rfl, rfl⟩
              · replace h := XSplit.f h e
                conv => whnf
                refine ACalls.inn (c20 (W.bindE h) (fun v21 h => ?_)) rfl
                conv => whnf
                refine ⟨_, Weak.a ?_, h⟩; (conv => whnf); exact ⟨rfl, rfl, rfl, rfl, rfl⟩
            · conv => whnf
              refine XSplit.mk (fun e => ?_) (fun e => ?_)
              · replace h := XSplit.t h e
                conv => whnf
                refine ⟨_, Weak.a ?_, h⟩; (conv => whnf); exact ⟨rfl, rfl, rfl, rfl, rfl⟩
              · replace h := XSplit.f h e
                conv => whnf
                refine ASeq.go tab_ok mixed_ ?_
                conv => whnf
                refine ASeq.joinW tab_ok mixed_ (fun v22 => ⟨[(3, .ptr 0 0), (6, .ptr 1 0), (7, .int .i64 (0)), (8, .ptr 2 0), (9, .ptr 3 0), (107, .bool (v22))], [(0, .box 54 [.int .i64 (a0), .int .i64 (a1), .int .i64 (a2), .int .i64 (a3), .int .i64 (a4), .int .i64 (a5), .int .i64 (a6), .int .i64 (a7), .int .i64 (a8), .int .i64 (a9), .int .i64 (a10), .int .i64 (a11), .sl (a12) 76 (a13), .sl (a14) 21 (a15), .int .i64 (a16), .int .i64 (a17), .int .i64 (a18), .int .i64 (a19), .int .i64 (a20), .int .i64 (a21), .int .i64 (a22), .int .i64 (a23)]), (1, .box 23 [.int .i64 (0), .int .i64 (0), .int .i64 (0)]), (2, .box 23 [.int .i64 (ri a26 a1.toNat 0), .int .i64 (ri a26 a1.toNat 1), .int .i64 (ri a26 a1.toNat 2)]), (3, .box 23 [.int .i64 (v19.fst), .int .i64 (v19.snd.fst), .int .i64 (v19.snd.snd.fst)])], 4, [], []⟩) h (fun Q h => ?_) (fun v22 h => ?_)
                · conv => whnf
                  refine ACalls.inn (c16 (W.bindE h) (fun v23 h => ?_)) rfl
                  conv => whnf
                  refine XSplit.mk (fun e => ?_) (fun e => ?_)
                  · replace h := XSplit.t h e
                    conv => whnf
                    refine ACalls.inn (c31 (W.bindE h) (fun v24 h => ?_)) rfl
                    conv => whnf
                    refine ⟨_, Weak.a ?_, h⟩; (conv => whnf); exact ⟨rfl, rfl, rfl, rfl, rfl⟩
                  · replace h := XSplit.f h e
                    conv => whnf
                    refine ⟨_, Weak.a ?_, h⟩; (conv => whnf); exact ⟨rfl, rfl, rfl, rfl, rfl⟩
                · conv => whnf
                  refine XSplit.mk (fun e => ?_) (fun e => ?_)
                  · replace h := XSplit.t h e
                    conv => whnf
                    refine ⟨_, Weak.a ?_, h⟩; (conv => whnf); exact ⟨rfl, rfl, rfl, rfl, rfl⟩
                  · replace h := XSplit.f h e
                    conv => whnf
                    refine ACalls.inn (c32 (W.bindE h) (fun v25 h => ?_)) rfl
                    conv => whnf
                    refine ASeq.go tab_ok mixed_ ?_
                    conv => whnf
                    refine XSplit.mk (fun e => ?_) (fun e => ?_)
                    · replace h := XSplit.t h e
                      conv => whnf
                      refine ⟨_, Weak.a ?_, h⟩; (conv => whnf); exact ⟨rfl, rfl, rfl, rfl, rfl⟩
                    · replace h := XSplit.f h e
                      conv => whnf
                      refine ASeq.go tab_ok mixed_ ?_
                      conv => whnf
                      refine ASeq.joinW tab_ok mixed_ (fun v26 => ⟨[(3, .ptr 0 0), (6, .ptr 1 0), (7, .int .i64 (0)), (9, .ptr 2 0), (155, .bool (v26))], [(0, .box 54 [.int .i64 (a0), .int .i64 (a1), .int .i64 (a2), .int .i64 (a3), .int .i64 (a4), .int .i64 (a5), .int .i64 (a6), .int .i64 (a7), .int .i64 (a8), .int .i64 (a9), .int .i64 (a10), .int .i64 (a11), .sl (a12) 76 (a13), .sl (a14) 21 (a15), .int .i64 (a16), .int .i64 (a17), .int .i64 (a18), .int .i64 (a19), .int .i64 (a20), .int .i64 (a21), .int .i64 (a22), .int .i64 (a23)]), (1, .box 23 [.int .i64 (0), .int .i64 (0), .int .i64 (0)]), (2, .box 23 [.int .i64 (v19.fst), .int .i64 (v19.snd.fst), .int .i64 (v19.snd.snd.fst)])], 3, [], []⟩) h (fun Q h => ?_) (fun v26 h => ?_)
                      · conv => whnf
                        refine ACalls.inn (c33 (W.bindE h) (fun v27 h => ?_)) rfl
                        conv => whnf
                        refine XSplit.mk (fun e => ?_) (fun e => ?_)
                        · replace h := XSplit.t h e
                          conv => whnf
                          refine ACalls.inn (c34 (W.bindE h) (fun v28 h => ?_)) rfl
                          conv => whnf
                          refine XSplit.mk (fun e => ?_) (fun e => ?_)
                          · replace h := XSplit.t h e
                            conv => whnf
                            refine ⟨_, Weak.a ?_, h⟩; (conv => whnf); exact ⟨rfl, rfl, rfl, rfl, rfl⟩
                          · replace h := XSplit.f h e
                            conv => whnf
                            refine XSplit.mk (fun e => ?_) (fun e => ?_)
                            · replace h := XSplit.t h e
                              conv => whnf
                              refine ACalls.inn (c34 (W.bindE h) (fun v29 h => ?_)) rfl
                              conv => whnf
                              refine ⟨_, Weak.a ?_, h⟩; (conv => whnf); exact ⟨rfl, rfl, rfl, rfl, rfl⟩
                            · replace h := XSplit.f h e
                              conv => whnf
                              refine ⟨_, Weak.a ?_, h⟩; (conv => whnf); exact ⟨rfl, rfl, rfl, rfl, rfl⟩
                        · replace h := XSplit.f h e
                          conv => whnf
                          refine XSplit.mk (fun e => ?_) (fun e => ?_)
                          · replace h := XSplit.t h e
                            conv => whnf
                            refine ACalls.inn (c34 (W.bindE h) (fun v30 h => ?_)) rfl
                            conv => whnf
                            refine ⟨_, Weak.a ?_, h⟩; (conv => whnf); exact ⟨rfl, rfl, rfl, rfl, rfl⟩
                          · replace h := XSplit.f h e
                            conv => whnf
                            refine ⟨_, Weak.a ?_, h⟩; (conv => whnf); exact ⟨rfl, rfl, rfl, rfl, rfl⟩
                      · conv => whnf
                        refine XSplit.mk (fun e => ?_) (fun e => ?_)
                        · replace h := XSplit.t h e
                          conv => whnf
                          refine ⟨_, Weak.a ?_, h⟩; (conv => whnf); exact ⟨rfl, rfl, rfl, rfl, rfl⟩
                        · replace h := XSplit.f h e
                          conv => whnf
                          refine ASeq.go tab_ok mixed_ ?_
                          conv => whnf
                          refine ASeq.joinW tab_ok mixed_ (fun v31 => ⟨[(6, .ptr 0 0), (7, .int .i64 (0)), (9, .ptr 1 0), (185, .bool (v31))], [(0, .box 23 [.int .i64 (0), .int .i64 (0), .int .i64 (0)]), (1, .box 23 [.int .i64 (v19.fst), .int .i64 (v19.snd.fst), .int .i64 (v19.snd.snd.fst)])], 2, [], []⟩) h (fun Q h => ?_) (fun v31 h => ?_)
                          · conv => whnf
                            refine ACalls.inn (c21 (W.bindE h) (fun v32 h => ?_)) rfl
                            conv => whnf
                            refine XSplit.mk (fun e => ?_) (fun e => ?_)
                            · replace h := XSplit.t h e
                              conv => whnf
                              refine ⟨_, Weak.a ?_, h⟩; (conv => whnf); exact ⟨rfl, rfl, rfl, rfl, rfl⟩
                            · replace h := XSplit.f h e
                              conv => whnf
                              refine ACalls.inn (c21 (W.bindE h) (fun v33 h => ?_)) rfl
                              conv => whnf
                              refine XSplit.mk (fun e => ?_) (fun e => ?_)
                              · replace h := XSplit.t h e
                                conv => whnf
                                refine ⟨_, Weak.a ?_, h⟩; (conv => whnf); exact ⟨rfl, rfl, rfl, rfl, rfl⟩
                              · replace h := XSplit.f h e
                                conv => whnf
                                refine ACalls.inn (c21 (W.bindE h) (fun v34 h => ?_)) rfl
                                conv => whnf
                                refine XSplit.mk (fun e => ?_) (fun e => ?_)
                                · replace h := XSplit.t h e
                                  conv => whnf
                                  refine ⟨_, Weak.a ?_, h⟩; (conv => whnf); exact ⟨rfl, rfl, rfl, rfl, rfl⟩
                                · replace h := XSplit.f h e
                                  conv => whnf
                                  refine ACalls.inn (c21 (W.bindE h) (fun v35 h => ?_)) rfl
                                  conv => whnf
                                  refine ⟨_, Weak.a ?_, h⟩; (conv => whnf); exact ⟨rfl, rfl, rfl, rfl, rfl⟩
                          · conv => whnf
                            refine XSplit.mk (fun e => ?_) (fun e => ?_)
                            · replace h := XSplit.t h e
                              conv => whnf
                              refine ⟨_, Weak.a ?_, h⟩; (conv => whnf); exact ⟨rfl, rfl, rfl, rfl, rfl⟩
                            · replace h := XSplit.f h e
                              conv => whnf
                              refine ⟨_, Weak.a ?_, h⟩; (conv => whnf); exact ⟨rfl, rfl, rfl, rfl, rfl⟩

theorem c23 {a0 : Int} {a1 : Int} {a2 : Int} {a3 : Int} {a4 : Int} {a5 : Int} {a6 : Int} {a7 : Int} {a8 : Int} {a9 : Int} {a10 : Int} {a11 : Int} {a12 : Bool} {a13 : Rws} {a14 : Bool} {a15 : Rws} {a16 : Int} {a17 : Int} {a18 : Int} {a19 : Int} {a20 : Int} {a21 : Int} {a22 : Int} {a23 : Int} {a24 : Int} {a25 : Int} {a26 : Int} {a27 : Int} {a28 : Int} {a29 : Int} {Q : Int → Prop} {R : AV → List AB → Prop} (h : (g_ref08_Labour a0 a1 a2 a3 a4 a5 a6 a7 a8 a9 a10 a11 a12 a13 a14 a15 a16 a17 a18 a19 a20 a21 a22 a23 a24 a25 a26 a27 a28 a29).run Q) (k : ∀ r, Q r → R (.int .i64 (r)) []) : ACalls Try.prog tab 23 [.agg [.int .i64 (a0), .int .i64 (a1), .int .i64 (a2), .int .i64 (a3), .int .i64 (a4), .int .i64 (a5), .int .i64 (a6), .int .i64 (a7), .int .i64 (a8), .int .i64 (a9), .int .i64 (a10), .int .i64 (a11), .sl (a12) 76 (a13), .sl (a14) 21 (a15), .int .i64 (a16), .int .i64 (a17), .int .i64 (a18), .int .i64 (a19), .int .i64 (a20), .int .i64 (a21), .int .i64 (a22), .int .i64 (a23)], .agg [.int .i64 (a24), .int .i64 (a25), .int .i64 (a26)], .agg [.int .i64 (a27), .int .i64 (a28), .int .i64 (a29)]] [] R := by
  refine ACalls.out (fun r => .int .i64 (r)) (fun r => []) (Q := Q) (ACalls.introX tab_ok mixed_ (fn := Try.f23) (by kernel_rfl) rfl (by kernel_rfl) (by kernel_rfl) (Nat.le_of_ble_eq_true rfl) ?_) (by intros; intro e; cases e) (by intros; intro e; cases e) k
  conv => whnf
  refine ASeq.go tab_ok mixed_ ?_
  conv => whnf
  refine ACalls.inn (c16 (W.bindE h) (fun v2 h => ?_)) rfl
  conv => whnf
  refine XSplit.mk (fun e => ?_) (fun e => ?_)
  · replace h := XSplit.t h e
    conv => whnf
    refine ACalls.inn (c31 (W.bindE h) (fun v3 h => ?_)) rfl
    conv => whnf
    refine ⟨_, Weak.a ?_, h⟩; (conv => whnf); exact ⟨rfl, rfl, rfl, rfl, rfl⟩
  · replace h := XSplit.f h e
    conv => whnf
    refine ASeq.go tab_ok mixed_ ?_
    conv => whnf
    refine XSplit.mk (fun e => ?_) (fun e => ?_)
    · replace h := XSplit.t h e
      conv => whnf
      refine ⟨_, Weak.a ?_, h⟩; (conv => whnf); exact ⟨rfl, rfl, rfl, rfl, rfl⟩
    · replace h := XSplit.f h e
      conv => whnf
      refine ⟨_, Weak.a ?_, h⟩; (conv => whnf); exact ⟨rfl, rfl, rfl, rfl, rfl⟩

theorem c8 {a0 : Int} {a1 : Int} {a2 : Int} {a3 : Int} {a4 : Int} {a5 : Bool} {a6 : Rws} {a7 : Int} {Q : Int × Int × Int × Int × Bool × Rws → Prop} {R : AV → List AB → Prop} (h : (g_ref08_Look a0 a1 a2 a3 a4 a5 a6 a7).run Q) (k : ∀ r, Q r → R (.tup [.own 0, .int .i64 (r.fst), .agg [.int .i64 (r.snd.fst), .int .i64 (r.snd.snd.fst), .int .i64 (r.snd.snd.snd.fst)]]) [.arr true 23 (r.snd.snd.snd.snd.fst) (r.snd.snd.snd.snd.snd)]) : ACalls Try.prog tab 8 [.agg [.int .i64 (a0), .int .i64 (a1), .int .i64 (a2), .int .i64 (a3), .int .i64 (a4), .sl (a5) 54 (a6), .int .i64 (a7)]] [] R := by
  refine ACalls.out (fun r => .tup [.own 0, .int .i64 (r.fst), .agg [.int .i64 (r.snd.fst), .int .i64 (r.snd.snd.fst), .int .i64 (r.snd.snd.snd.fst)]]) (fun r => [.arr true 23 (r.snd.snd.snd.snd.fst) (r.snd.snd.snd.snd.snd)]) (Q := Q) (ACalls.introX tab_ok mixed_ (fn := Try.f8) (by kernel_rfl) rfl (by kernel_rfl) (by kernel_rfl) (Nat.le_of_ble_eq_true rfl) ?_) (by intros; intro e; cases e) (by intros; intro e; cases e) k
  conv => whnf
  refine ASeq.joinW tab_ok mixed_ (fun v10 => ⟨[(1, .ptr 0 0), (2, .nils), (3, .int .i64 (0)), (4, .ptr 1 0), (5, .int .i64 (v10))], [(0, .box 26 [.int .i64 (a0), .int .i64 (a1), .int .i64 (a2), .int .i64 (a3), .int .i64 (a4), .sl (a5) 54 (a6), .int .i64 (a7)]), (1, .box 31 [.int .i64 (0), .int .i64 (0), .int .i64 (0)])], 2, [], []⟩) h (fun Q h => ?_) (fun v10 h => ?_)
  · conv => whnf
    refine ACalls.inn (c20 (W.bindE h) (fun v11 h => ?_)) rfl
    conv => whnf
    refine XSplit.mk (fun e => ?_) (fun e => ?_)
    · replace h := XSplit.t h e
      conv => whnf
      refine ⟨_, Weak.a ?_, h⟩; (conv => whnf); exact ⟨rfl, rfl, rfl, rfl, rfl⟩
    · replace h := XSplit.f h e
      conv => whnf
      refine ASeq.joinW tab_ok mixed_ (fun v12 => ⟨[(1, .ptr 0 0), (2, .nils), (3, .int .i64 (0)), (4, .ptr 1 0), (5, .int .i64 (0)), (32, .bool (v12))], [(0, .box 26 [.int .i64 (a0), .int .i64 (a1), .int .i64 (a2), .int .i64 (a3), .int .i64 (a4), .sl (a5) 54 (a6), .int .i64 (a7)]), (1, .box 31 [.int .i64 (0), .int .i64 (0), .int .i64 (0)])], 2, [], []⟩) h (fun Q h => ?_) (fun v12 h => ?_)
      · conv => whnf
        refine ACalls.inn (c21 (W.bindE h) (fun v13 h => ?_)) rfl
        conv => whnf
        refine XSplit.mk (fun e => ?_) (fun e => ?_)
        · replace h := XSplit.t h e
          conv => whnf
          refine ⟨_, Weak.a ?_, h⟩; (conv => whnf); exact ⟨rfl, rfl, rfl, rfl, rfl⟩
        · replace h := XSplit.f h e
          conv => whnf
          refine ACalls.inn (c21 (W.bindE h) (fun v14 h => ?_)) rfl
          conv => whnf
          refine ⟨_, Weak.a ?_, h⟩; (conv => whnf); exact ⟨rfl, rfl, rfl, rfl, rfl⟩
      · conv => whnf
        refine XSplit.mk (fun e => ?_) (fun e => ?_)
        · replace h := XSplit.t h e
          conv => whnf
          refine ⟨_, Weak.a ?_, h⟩; (conv => whnf); exact ⟨rfl, rfl, rfl, rfl, rfl⟩
        · replace h := XSplit.f h e
          conv => whnf
          refine XSplit.mk (fun e => ?_) (fun e => ?_)
          · replace h := XSplit.t h e
            conv => whnf
            refine ⟨_, Weak.a ?_, h⟩; (conv => whnf); exact ⟨rfl, rfl, rfl, rfl, rfl⟩
          · replace h := XSplit.f h e
            conv => whnf
            refine XSplit.mk (fun e => ?_) (fun e => ?_)
            · replace h := XSplit.t h e
              conv => whnf
              refine ⟨_, Weak.a ?_, h⟩; (conv => whnf); exact ⟨rfl, rfl, rfl, rfl, rfl⟩
            · replace h := XSplit.f h e
              conv => whnf
              refine ⟨_, Weak.a ?_, h⟩; (conv => whnf); exact ⟨rfl, rfl, rfl, rfl, rfl⟩
  · conv => whnf
    refine ASeq.go tab_ok mixed_ ?_
    conv => whnf
    refine XSplit.mk (fun e => ?_) (fun e => ?_)
    · replace h := XSplit.t h e
      conv => whnf
      refine ⟨_, Weak.a ?_, h⟩; (conv => whnf); exact ⟨rfl, rfl, rfl, rfl, rfl⟩
    · replace h := XSplit.f h e
      conv => whnf
      refine ASeq.go tab_ok mixed_ ?_
      conv => whnf
      refine ALoop.ofW tab_ok mixed_ (fun v15 => ⟨[(2, .nils), (3, .int .i64 (0)), (4, .ptr 0 0), (6, .own 1), (7, .int .i64 (v15.fst)), (56, .sl (a5) 54 (a6)), (57, .int .i64 ((↑(List.length a6) : Int))), (58, .int .i64 (v15.snd.fst))], [(0, .box 31 [.int .i64 (0), .int .i64 (0), .int .i64 (0)]), (1, .arr true 23 (false) (v15.snd.snd))], 2, [], []⟩) (sx (fun v16 => (.ret, ⟨[(2, .nils), (3, .int .i64 (0)), (4, .ptr 0 0), (6, .own 1), (7, .int .i64 (v16.fst))], [(0, .box 31 [.int .i64 (v16.snd.fst), .int .i64 (v16.snd.snd.fst), .int .i64 (0)]), (1, .arr true 23 (false) (v16.snd.snd.snd))], 2, [], []⟩)) (fun v17 => (.exit 0, ⟨[(2, .nils), (3, .int .i64 (0)), (4, .ptr 0 0), (6, .own 1), (7, .int .i64 (v17.fst))], [(0, .box 31 [.int .i64 (0), .int .i64 (0), .int .i64 (0)]), (1, .arr true 23 (false) (v17.snd))], 2, [], []⟩))) (W.bindE h) (Weak.a ?_) (fun v15 I Q h => ?_) (fun v h => ?_)
      · conv => whnf
        exact ⟨rfl, rfl, rfl, rfl, rfl⟩
      · conv => whnf
        refine ASeq.go tab_ok mixed_ ?_
        conv => whnf
        refine XSplit.mk (fun e => ?_) (fun e => ?_)
        · replace h := XSplit.t h e
          conv => whnf
          refine ASeq.go tab_ok mixed_ ?_
          conv => whnf
          refine XNeed.mk (XNeed.c h) ?_; replace h := XNeed.x h
          conv => whnf
          refine ACalls.inn (c22 (W.bindE h) (fun v18 h => ?_)) rfl
          conv => whnf
          refine ASeq.go tab_ok mixed_ ?_
          conv => whnf
          refine XSplit.mk (fun e => ?_) (fun e => ?_)
          · replace h := XSplit.t h e
            conv => whnf
            refine ⟨_, ?_, Weak.a ?_, h⟩; exact rfl; (conv => whnf); exact ⟨rfl, rfl, rfl, rfl, rfl⟩
          · replace h := XSplit.f h e
            conv => whnf
            refine XDraw.d [0, 1, 2, 3, 4, 5, 6, 7, 8, 9, 10] (by decide +kernel) ?_
            conv => whnf
            refine XNeed.mk (XNeed.c h) ?_; replace h := XNeed.x h
            conv => whnf
            refine ACalls.inn (c23 (W.bindE h) (fun v19 h => ?_)) rfl
            conv => whnf
            refine ASeq.go tab_ok mixed_ ?_
            conv => whnf
            refine XSplit.mk (fun e => ?_) (fun e => ?_)
            · replace h := XSplit.t h e
              conv => whnf
              refine ⟨_, ?_, Weak.a ?_, h⟩; exact rfl; (conv => whnf); exact ⟨rfl, rfl, rfl, rfl, rfl⟩
            · replace h := XSplit.f h e
              conv => whnf
              refine XNeed.mk (XNeed.c h) ?_; replace h := XNeed.x h
              conv => whnf
              refine ⟨_, Weak.a ?_, h⟩; (conv => whnf); exact ⟨rfl, rfl, rfl, rfl, rfl⟩
        · replace h := XSplit.f h e
          conv => whnf
          refine ⟨_, ?_, Weak.a ?_, h⟩; exact rfl; (conv => whnf); exact ⟨rfl, rfl, rfl, rfl, rfl⟩
      · cases v
        · rename_i v16
          conv => whnf
          refine ⟨_, Weak.a ?_, h⟩; (conv => whnf); exact ⟨rfl, rfl, rfl, rfl, rfl⟩
        · rename_i v17
          conv => whnf
          refine ⟨_, Weak.a ?_, h⟩; (conv => whnf); exact ⟨rfl, rfl, rfl, rfl, rfl⟩

theorem c18 {a0 : Int} {a1 : Int} {a2 : Int} {Q : Int × Int → Prop} {R : AV → List AB → Prop} (h : (g_shape_Elems a0 a1 a2).run Q) (k : ∀ r, Q r → R (.tup [.int .i64 (r.fst), .int .i64 (r.snd)]) []) : ACalls Try.prog tab 18 [.agg [.int .i64 (a0), .int .i64 (a1), .int .i64 (a2)]] [] R := by
  refine ACalls.out (fun r => .tup [.int .i64 (r.fst), .int .i64 (r.snd)]) (fun r => []) (Q := Q) (ACalls.introX tab_ok mixed_ (fn := Try.f18) (by kernel_rfl) rfl (by kernel_rfl) (by kernel_rfl) (Nat.le_of_ble_eq_true rfl) ?_) (by intros; intro e; cases e) (by intros; intro e; cases e) k
  conv => whnf
  refine ASeq.go tab_ok mixed_ ?_
  conv => whnf
  refine ALoop.unroll tab_ok mixed_ (kn := fun st => ALoop Try.prog tab _ st _) (fun _ h => h) ?_
  conv => whnf
  refine ASeq.go tab_ok mixed_ ?_
  conv => whnf
  refine XSplit.tt rfl ?_
  conv => whnf
  refine ASeq.go tab_ok mixed_ ?_
  conv => whnf
  refine XNeed.mk (of_decide_eq_true rfl) ?_
  conv => whnf
  refine ASeq.go tab_ok mixed_ ?_
  conv => whnf
  refine XSplit.mk (fun e => ?_) (fun e => ?_)
  · replace h := XSplit.t h e
    conv => whnf
    refine ⟨_, Weak.a ?_, h⟩; (conv => whnf); exact ⟨rfl, rfl, rfl, rfl, rfl⟩
  · replace h := XSplit.f h e
    conv => whnf
    refine ALoop.unroll tab_ok mixed_ (kn := fun st => ALoop Try.prog tab _ st _) (fun _ h => h) ?_
    conv => whnf
    refine ASeq.go tab_ok mixed_ ?_
    conv => whnf
    refine XSplit.tt rfl ?_
    conv => whnf
    refine ASeq.go tab_ok mixed_ ?_
    conv => whnf
    refine XNeed.mk (of_decide_eq_true rfl) ?_
    conv => whnf
    refine ASeq.go tab_ok mixed_ ?_
    conv => whnf
    refine XSplit.mk (fun e => ?_) (fun e => ?_)
    · replace h := XSplit.t h e
      conv => whnf
      refine ⟨_, Weak.a ?_, h⟩; (conv => whnf); exact ⟨rfl, rfl, rfl, rfl, rfl⟩
    · replace h := XSplit.f h e
      conv => whnf
      refine ALoop.unroll tab_ok mixed_ (kn := fun st => ALoop Try.prog tab _ st _) (fun _ h => h) ?_
      conv => whnf
      refine ASeq.go tab_ok mixed_ ?_
      conv => whnf
      refine XSplit.tt rfl ?_
      conv => whnf
      refine ASeq.go tab_ok mixed_ ?_
      conv => whnf
      refine XNeed.mk (of_decide_eq_true rfl) ?_
      conv => whnf
      refine ASeq.go tab_ok mixed_ ?_
      conv => whnf
      refine XSplit.mk (fun e => ?_) (fun e => ?_)
      · replace h := XSplit.t h e
        conv => whnf
        refine ⟨_, Weak.a ?_, h⟩; (conv => whnf); exact ⟨rfl, rfl, rfl, rfl, rfl⟩
      · replace h := XSplit.f h e
        conv => whnf
        refine ALoop.unroll tab_ok mixed_ (kn := fun st => ALoop Try.prog tab _ st _) (fun _ h => h) ?_
        conv => whnf
        refine ASeq.go tab_ok mixed_ ?_
        conv => whnf
        refine XSplit.ff rfl ?_
        conv => whnf
        refine ASeq.go tab_ok mixed_ ?_
        conv => whnf
        refine XSplit.mk (fun e => ?_) (fun e => ?_)
        · replace h := XSplit.t h e
          conv => whnf
          refine ⟨_, Weak.a ?_, h⟩; (conv => whnf); exact ⟨rfl, rfl, rfl, rfl, rfl⟩
        · replace h := XSplit.f h e
          conv => whnf
          refine ⟨_, Weak.a ?_, h⟩; (conv => whnf); exact ⟨rfl, rfl, rfl, rfl, rfl⟩

theorem c35 {a0 : Bool} {a1 : Rws} {Q : Bool → Prop} {R : AV → List AB → Prop} (h : (g_model_byte8 a0 a1).run Q) (k : ∀ r, Q r → R (.bool (r)) []) : ACalls Try.prog tab 35 [.sl (a0) 3 (a1)] [] R := by
  refine ACalls.out (fun r => .bool (r)) (fun r => []) (Q := Q) (ACalls.introX tab_ok mixed_ (fn := Try.f35) (by kernel_rfl) rfl (by kernel_rfl) (by kernel_rfl) (Nat.le_of_ble_eq_true rfl) ?_) (by intros; intro e; cases e) (by intros; intro e; cases e) k
  conv => whnf
  refine ASeq.go tab_ok mixed_ ?_
  conv => whnf
  refine ALoop.ofW tab_ok mixed_ (fun v3 => ⟨[(2, .kb false), (5, .sl (a0) 3 (a1)), (6, .int .i64 ((↑(List.length a1) : Int))), (7, .int .i64 (v3))], [], 0, [], []⟩) (sx (fun v4 => (.ret, ⟨[(2, .kb false)], [], 0, [], []⟩)) (fun v5 => (.exit 0, ⟨[(2, .kb false)], [], 0, [], []⟩))) (W.bindE h) (Weak.a ?_) (fun v3 I Q h => ?_) (fun v h => ?_)
  · conv => whnf
    exact ⟨rfl, rfl, rfl, rfl, rfl⟩
  · conv => whnf
    refine ASeq.go tab_ok mixed_ ?_
    conv => whnf
    refine XSplit.mk (fun e => ?_) (fun e => ?_)
    · replace h := XSplit.t h e
      conv => whnf
      refine ASeq.go tab_ok mixed_ ?_
      conv => whnf
      refine XNeed.mk (XNeed.c h) ?_; replace h := XNeed.x h
      conv => whnf
      refine XSplit.mk (fun e => ?_) (fun e => ?_)
      · replace h := XSplit.t h e
        conv => whnf
        refine ⟨_, ?_, Weak.a ?_, h⟩; exact rfl; (conv => whnf); exact ⟨rfl, rfl, rfl, rfl, rfl⟩
      · replace h := XSplit.f h e
        conv => whnf
        refine ⟨_, Weak.a ?_, h⟩; (conv => whnf); exact ⟨rfl, rfl, rfl, rfl, rfl⟩
    · replace h := XSplit.f h e
      conv => whnf
      refine ⟨_, ?_, Weak.a ?_, h⟩; exact rfl; (conv => whnf); exact ⟨rfl, rfl, rfl, rfl, rfl⟩
  · cases v
    · rename_i v4
      conv => whnf
      refine ⟨_, Weak.a ?_, h⟩; (conv => whnf); exact ⟨rfl, rfl, rfl, rfl, rfl⟩
    · rename_i v5
      conv => whnf
      refine ⟨_, Weak.a ?_, h⟩; (conv => whnf); exact ⟨rfl, rfl, rfl, rfl, rfl⟩
end Go.Proofs.Ytaghkmaelbgljaa.V08

set_option linter.unusedVariables false
set_option maxRecDepth 100000
set_option maxHeartbeats 0
namespace Go.Proofs.Ytaghkmaelbgljaa.V08
open Go.Proofs Go.Proofs.Ytaghkmaelbgljaa.VX
theorem c41 {a0 : Int} {Q : Bool × Bool × Bool × Bool × Bool × Bool × Bool × Bool × Bool → Prop} {R : AV → List AB → Prop} (h : (g_model_of a0).run Q) (k : ∀ r, Q r → R (.tup [.agg [.bool (r.fst), .bool (r.snd.fst), .bool (r.snd.snd.fst), .bool (r.snd.snd.snd.fst), .bool (r.snd.snd.snd.snd.fst), .bool (r.snd.snd.snd.snd.snd.fst), .bool (r.snd.snd.snd.snd.snd.snd.fst), .bool (r.snd.snd.snd.snd.snd.snd.snd.fst)], .bool (r.snd.snd.snd.snd.snd.snd.snd.snd)]) []) : ACalls Try.prog tab 41 [.int .i64 (a0)] [] R := by
  refine ACalls.out (fun r => .tup [.agg [.bool (r.fst), .bool (r.snd.fst), .bool (r.snd.snd.fst), .bool (r.snd.snd.snd.fst), .bool (r.snd.snd.snd.snd.fst), .bool (r.snd.snd.snd.snd.snd.fst), .bool (r.snd.snd.snd.snd.snd.snd.fst), .bool (r.snd.snd.snd.snd.snd.snd.snd.fst)], .bool (r.snd.snd.snd.snd.snd.snd.snd.snd)]) (fun r => []) (Q := Q) (ACalls.introX tab_ok mixed_ (fn := Try.f41) (by kernel_rfl) rfl (by kernel_rfl) (by kernel_rfl) (Nat.le_of_ble_eq_true rfl) ?_) (by intros; intro e; cases e) (by intros; intro e; cases e) k
  conv => whnf
  refine ASeq.go tab_ok mixed_ ?_
  conv => whnf
  refine XSplit.mk (fun e => ?_) (fun e => ?_)
  · replace h := XSplit.t h e
    conv => whnf
    refine ⟨_, Weak.a ?_, h⟩; (conv => whnf); exact ⟨rfl, rfl, rfl, rfl, rfl⟩
  · replace h := XSplit.f h e
    conv => whnf
    refine XSplit.mk (fun e => ?_) (fun e => ?_)
    · replace h := XSplit.t h e
      conv => whnf
      refine ⟨_, Weak.a ?_, h⟩; (conv => whnf); exact ⟨rfl, rfl, rfl, rfl, rfl⟩
    · replace h := XSplit.f h e
      conv => whnf
      refine XSplit.mk (fun e => ?_) (fun e => ?_)
      · replace h := XSplit.t h e
        conv => whnf
        refine ⟨_, Weak.a ?_, h⟩; (conv => whnf); exact ⟨rfl, rfl, rfl, rfl, rfl⟩
      · replace h := XSplit.f h e
        conv => whnf
        refine ASeq.joinW tab_ok mixed_ (fun v1 => ⟨[(2, .ptr 0 0), (3, .kb false), (4, .int .i64 (a0)), (14, .bool (v1))], [(0, .box 82 [.kb false, .kb false, .kb false, .kb false, .kb false, .kb false, .kb false, .kb false])], 1, [], []⟩) h (fun Q h => ?_) (fun v1 h => ?_)
        · conv => whnf
          refine XSplit.mk (fun e => ?_) (fun e => ?_)
          · replace h := XSplit.t h e
            conv => whnf
            refine ⟨_, Weak.a ?_, h⟩; (conv => whnf); exact ⟨rfl, rfl, rfl, rfl, rfl⟩
          · replace h := XSplit.f h e
            conv => whnf
            refine ⟨_, Weak.a ?_, h⟩; (conv => whnf); exact ⟨rfl, rfl, rfl, rfl, rfl⟩
        · conv => whnf
          refine XSplit.mk (fun e => ?_) (fun e => ?_)
          · replace h := XSplit.t h e
            conv => whnf
            refine ⟨_, Weak.a ?_, h⟩; (conv => whnf); exact ⟨rfl, rfl, rfl, rfl, rfl⟩
          · replace h := XSplit.f h e
            conv => whnf
            refine XSplit.mk (fun e => ?_) (fun e => ?_)
            · replace h := XSplit.t h e
              conv => whnf
              refine ⟨_, Weak.a ?_, h⟩; (conv => whnf); exact ⟨rfl, rfl, rfl, rfl, rfl⟩
            · replace h := XSplit.f h e
              conv => whnf
              refine XSplit.mk (fun e => ?_) (fun e => ?_)
              · replace h := XSplit.t h e
                conv => whnf
                refine ⟨_, Weak.a ?_, h⟩; (conv => whnf); exact ⟨rfl, rfl, rfl, rfl, rfl⟩
              · replace h := XSplit.f h e
                conv => whnf
                refine XSplit.mk (fun e => ?_) (fun e => ?_)
                · replace h := XSplit.t h e
                  conv => whnf
                  refine ⟨_, Weak.a ?_, h⟩; (conv => whnf); exact ⟨rfl, rfl, rfl, rfl, rfl⟩
                · replace h := XSplit.f h e
                  conv => whnf
                  refine ⟨_, Weak.a ?_, h⟩; (conv => whnf); exact ⟨rfl, rfl, rfl, rfl, rfl⟩

theorem c43 {a0 : Int} {a1 : Int} {a2 : Int} {a3 : Int} {a4 : Int} {a5 : Int} {a6 : Int} {a7 : Int} {a8 : Int} {a9 : Int} {a10 : Int} {a11 : Int} {a12 : Bool} {a13 : Rws} {a14 : Bool} {a15 : Rws} {a16 : Int} {a17 : Int} {a18 : Int} {a19 : Int} {a20 : Int} {a21 : Int} {a22 : Int} {a23 : Int} {a24 : Bool} {a25 : Bool} {a26 : Bool} {a27 : Bool} {a28 : Bool} {a29 : Bool} {a30 : Bool} {a31 : Bool} {Q : Int × Int × Int × Int × Int × Int × Int × Int × Int × Int × Int × Int × Bool × Rws × Bool × Rws × Int × Int × Int × Int × Int × Int × Int × Int → Prop} {R : AV → List AB → Prop} (h : (g_model_bare a0 a1 a2 a3 a4 a5 a6 a7 a8 a9 a10 a11 a12 a13 a14 a15 a16 a17 a18 a19 a20 a21 a22 a23 a24 a25 a26 a27 a28 a29 a30 a31).run Q) (k : ∀ r, Q r → R (.agg [.int .i64 (r.fst), .int .i64 (r.snd.fst), .int .i64 (r.snd.snd.fst), .int .i64 (r.snd.snd.snd.fst), .int .i64 (r.snd.snd.snd.snd.fst), .int .i64 (r.snd.snd.snd.snd.snd.fst), .int .i64 (r.snd.snd.snd.snd.snd.snd.fst), .int .i64 (r.snd.snd.snd.snd.snd.snd.snd.fst), .int .i64 (r.snd.snd.snd.snd.snd.snd.snd.snd.fst), .int .i64 (r.snd.snd.snd.snd.snd.snd.snd.snd.snd.fst), .int .i64 (r.snd.snd.snd.snd.snd.snd.snd.snd.snd.snd.fst), .int .i64 (r.snd.snd.snd.snd.snd.snd.snd.snd.snd.snd.snd.fst), .sl (r.snd.snd.snd.snd.snd.snd.snd.snd.snd.snd.snd.snd.fst) 76 (r.snd.snd.snd.snd.snd.snd.snd.snd.snd.snd.snd.snd.snd.fst), .sl (r.snd.snd.snd.snd.snd.snd.snd.snd.snd.snd.snd.snd.snd.snd.fst) 21 (r.snd.snd.snd.snd.snd.snd.snd.snd.snd.snd.snd.snd.snd.snd.snd.fst), .int .i64 (r.snd.snd.snd.snd.snd.snd.snd.snd.snd.snd.snd.snd.snd.snd.snd.snd.fst), .int .i64 (r.snd.snd.snd.snd.snd.snd.snd.snd.snd.snd.snd.snd.snd.snd.snd.snd.snd.fst), .int .i64 (r.snd.snd.snd.snd.snd.snd.snd.snd.snd.snd.snd.snd.snd.snd.snd.snd.snd.snd.fst), .int .i64 (r.snd.snd.snd.snd.snd.snd.snd.snd.snd.snd.snd.snd.snd.snd.snd.snd.snd.snd.snd.fst), .int .i64 (r.snd.snd.snd.snd.snd.snd.snd.snd.snd.snd.snd.snd.snd.snd.snd.snd.snd.snd.snd.snd.fst), .int .i64 (r.snd.snd.snd.snd.snd.snd.snd.snd.snd.snd.snd.snd.snd.snd.snd.snd.snd.snd.snd.snd.snd.fst), .int .i64 (r.snd.snd.snd.snd.snd.snd.snd.snd.snd.snd.snd.snd.snd.snd.snd.snd.snd.snd.snd.snd.snd.snd.fst), .int .i64 (r.snd.snd.snd.snd.snd.snd.snd.snd.snd.snd.snd.snd.snd.snd.snd.snd.snd.snd.snd.snd.snd.snd.snd)]) []) : ACalls Try.prog tab 43 [.agg [.int .i64 (a0), .int .i64 (a1), .int .i64 (a2), .int .i64 (a3), .int .i64 (a4), .int .i64 (a5), .int .i64 (a6), .int .i64 (a7), .int .i64 (a8), .int .i64 (a9), .int .i64 (a10), .int .i64 (a11), .sl (a12) 76 (a13), .sl (a14) 21 (a15), .int .i64 (a16), .int .i64 (a17), .int .i64 (a18), .int .i64 (a19), .int .i64 (a20), .int .i64 (a21), .int .i64 (a22), .int .i64 (a23)], .agg [.bool (a24), .bool (a25), .bool (a26), .bool (a27), .bool (a28), .bool (a29), .bool (a30), .bool (a31)]] [] R := by
  refine ACalls.out (fun r => .agg [.int .i64 (r.fst), .int .i64 (r.snd.fst), .int .i64 (r.snd.snd.fst), .int .i64 (r.snd.snd.snd.fst), .int .i64 (r.snd.snd.snd.snd.fst), .int .i64 (r.snd.snd.snd.snd.snd.fst), .int .i64 (r.snd.snd.snd.snd.snd.snd.fst), .int .i64 (r.snd.snd.snd.snd.snd.snd.snd.fst), .int .i64 (r.snd.snd.snd.snd.snd.snd.snd.snd.fst), .int .i64 (r.snd.snd.snd.snd.snd.snd.snd.snd.snd.fst), .int .i64 (r.snd.snd.snd.snd.snd.snd.snd.snd.snd.snd.fst), .int .i64 (r.snd.snd.snd.snd.snd.snd.snd.snd.snd.snd.snd.fst), .sl (r.snd.snd.snd.snd.snd.snd.snd.snd.snd.snd.snd.snd.fst) 76 (r.snd.snd.snd.snd.snd.snd.snd.snd.snd.snd.snd.snd.snd.fst), .sl (r.snd.snd.snd.snd.snd.snd.snd.snd.snd.snd.snd.snd.snd.snd.fst) 21 (r.snd.snd.snd.snd.snd.snd.snd.snd.snd.snd.snd.snd.snd.snd.snd.fst), .int .i64 (r.snd.snd.snd.snd.snd.snd.snd.snd.snd.snd.snd.snd.snd.snd.snd.snd.fst), .int .i64 (r.snd.snd.snd.snd.snd.snd.snd.snd.snd.snd.snd.snd.snd.snd.snd.snd.snd.fst), .int .i64 (r.snd.snd.snd.snd.snd.snd.snd.snd.snd.snd.snd.snd.snd.snd.snd.snd.snd.snd.fst), .int .i64 (r.snd.snd.snd.snd.snd.snd.snd.snd.snd.snd.snd.snd.snd.snd.snd.snd.snd.snd.snd.fst), .int .i64 (r.snd.snd.snd.snd.snd.snd.snd.snd.snd.snd.snd.snd.snd.snd.snd.snd.snd.snd.snd.snd.fst), .int .i64 (r.snd.snd.snd.snd.snd.snd.snd.snd.snd.snd.snd.snd.snd.snd.snd.snd.snd.snd.snd.snd.snd.fst), .int .i64 (r.snd.snd.snd.snd.snd.snd.snd.snd.snd.snd.snd.snd.snd.snd.snd.snd.snd.snd.snd.snd.snd.snd.fst), .int .i64 (r.snd.snd.snd.snd.snd.snd.snd.snd.snd.snd.snd.snd.snd.snd.snd.snd.snd.snd.snd.snd.snd.snd.snd)]) (fun r => []) (Q := Q) (ACalls.introX tab_ok mixed_ (fn := Try.f43) (by kernel_rfl) rfl (by kernel_rfl) (by kernel_rfl) (Nat.le_of_ble_eq_true rfl) ?_) (by intros; intro e; cases e) (by intros; intro e; cases e) k
  conv => whnf
  refine ASeq.joinW tab_ok mixed_ (fun v8 => ⟨[(2, .ptr 0 0), (3, .ptr 1 0), (4, .ptr 2 0)], [(0, .box 54 [.int .i64 (0), .int .i64 (0), .int .i64 (v8), .int .i64 (a3), .int .i64 (a4), .int .i64 (a5), .int .i64 (a6), .int .i64 (a7), .int .i64 (a8), .int .i64 (a9), .int .i64 (a10), .int .i64 (a11), .sl (a12) 76 (a13), .sl (a14) 21 (a15), .int .i64 (a16), .int .i64 (a17), .int .i64 (a18), .int .i64 (a19), .int .i64 (a20), .int .i64 (a21), .int .i64 (0), .int .i64 (0)]), (1, .box 82 [.bool (a24), .bool (a25), .bool (a26), .bool (a27), .bool (a28), .bool (a29), .bool (a30), .bool (a31)]), (2, .box 54 [.int .i64 (0), .int .i64 (0), .int .i64 (0), .int .i64 (0), .int .i64 (0), .int .i64 (0), .int .i64 (0), .int .i64 (0), .int .i64 (0), .int .i64 (0), .int .i64 (0), .int .i64 (0), .nils, .nils, .int .i64 (0), .int .i64 (0), .int .i64 (0), .int .i64 (0), .int .i64 (0), .int .i64 (0), .int .i64 (0), .int .i64 (0)])], 3, [], []⟩) h (fun Q h => ?_) (fun v8 h => ?_)
  · conv => whnf
    refine XSplit.mk (fun e => ?_) (fun e => ?_)
    · replace h := XSplit.t h e
      conv => whnf
      refine ⟨_, Weak.a ?_, h⟩; (conv => whnf); exact ⟨rfl, rfl, rfl, rfl, rfl⟩
    · replace h := XSplit.f h e
      conv => whnf
      refine ⟨_, Weak.a ?_, h⟩; (conv => whnf); exact ⟨rfl, rfl, rfl, rfl, rfl⟩
  · conv => whnf
    refine ASeq.joinW tab_ok mixed_ (fun v9 => ⟨[(2, .ptr 0 0), (3, .ptr 1 0), (4, .ptr 2 0)], [(0, .box 54 [.int .i64 (0), .int .i64 (0), .int .i64 (v8), .int .i64 (v9), .int .i64 (a4), .int .i64 (a5), .int .i64 (a6), .int .i64 (a7), .int .i64 (a8), .int .i64 (a9), .int .i64 (a10), .int .i64 (a11), .sl (a12) 76 (a13), .sl (a14) 21 (a15), .int .i64 (a16), .int .i64 (a17), .int .i64 (a18), .int .i64 (a19), .int .i64 (a20), .int .i64 (a21), .int .i64 (0), .int .i64 (0)]), (1, .box 82 [.bool (a24), .bool (a25), .bool (a26), .bool (a27), .bool (a28), .bool (a29), .bool (a30), .bool (a31)]), (2, .box 54 [.int .i64 (0), .int .i64 (0), .int .i64 (0), .int .i64 (0), .int .i64 (0), .int .i64 (0), .int .i64 (0), .int .i64 (0), .int .i64 (0), .int .i64 (0), .int .i64 (0), .int .i64 (0), .nils, .nils, .int .i64 (0), .int .i64 (0), .int .i64 (0), .int .i64 (0), .int .i64 (0), .int .i64 (0), .int .i64 (0), .int .i64 (0)])], 3, [], []⟩) h (fun Q h => ?_) (fun v9 h => ?_)
    · conv => whnf
      refine XSplit.mk (fun e => ?_) (fun e => ?_)
      · replace h := XSplit.t h e
        conv => whnf
        refine ⟨_, Weak.a ?_, h⟩; (conv => whnf); exact ⟨rfl, rfl, rfl, rfl, rfl⟩
      · replace h := XSplit.f h e
        conv => whnf
        refine ⟨_, Weak.a ?_, h⟩; (conv => whnf); exact ⟨rfl, rfl, rfl, rfl, rfl⟩
    · conv => whnf
      refine ASeq.joinW tab_ok mixed_ (fun v10 => ⟨[(2, .ptr 0 0), (3, .ptr 1 0), (4, .ptr 2 0)], [(0, .box 54 [.int .i64 (0), .int .i64 (0), .int .i64 (v8), .int .i64 (v9), .int .i64 (v10.fst), .int .i64 (v10.snd.fst), .int .i64 (v10.snd.snd.fst), .int .i64 (v10.snd.snd.snd), .int .i64 (a8), .int .i64 (a9), .int .i64 (a10), .int .i64 (a11), .sl (a12) 76 (a13), .sl (a14) 21 (a15), .int .i64 (a16), .int .i64 (a17), .int .i64 (a18), .int .i64 (a19), .int .i64 (a20), .int .i64 (a21), .int .i64 (0), .int .i64 (0)]), (1, .box 82 [.bool (a24), .bool (a25), .bool (a26), .bool (a27), .bool (a28), .bool (a29), .bool (a30), .bool (a31)]), (2, .box 54 [.int .i64 (0), .int .i64 (0), .int .i64 (0), .int .i64 (0), .int .i64 (0), .int .i64 (0), .int .i64 (0), .int .i64 (0), .int .i64 (0), .int .i64 (0), .int .i64 (0), .int .i64 (0), .nils, .nils, .int .i64 (0), .int .i64 (0), .int .i64 (0), .int .i64 (0), .int .i64 (0), .int .i64 (0), .int .i64 (0), .int .i64 (0)])], 3, [], []⟩) h (fun Q h => ?_) (fun v10 h => ?_)
      · conv => whnf
        refine XSplit.mk (fun e => ?_) (fun e => ?_)
        · replace h := XSplit.t h e
          conv => whnf
          refine ⟨_, Weak.a ?_, h⟩; (conv => whnf); exact ⟨rfl, rfl, rfl, rfl, rfl⟩
        · replace h := XSplit.f h e
          conv => whnf
          refine ⟨_, Weak.a ?_, h⟩; (conv => whnf); exact ⟨rfl, rfl, rfl, rfl, rfl⟩
      · conv => whnf
        refine ASeq.joinW tab_ok mixed_ (fun v11 => ⟨[(2, .ptr 0 0), (3, .ptr 1 0), (4, .ptr 2 0)], [(0, .box 54 [.int .i64 (0), .int .i64 (0), .int .i64 (v8), .int .i64 (v9), .int .i64 (v11.fst), .int .i64 (v11.snd.fst), .int .i64 (v11.snd.snd.fst), .int .i64 (v11.snd.snd.snd.fst), .int .i64 (v11.snd.snd.snd.snd.fst), .int .i64 (v11.snd.snd.snd.snd.snd.fst), .int .i64 (v11.snd.snd.snd.snd.snd.snd.fst), .int .i64 (v11.snd.snd.snd.snd.snd.snd.snd), .sl (a12) 76 (a13), .sl (a14) 21 (a15), .int .i64 (a16), .int .i64 (a17), .int .i64 (a18), .int .i64 (a19), .int .i64 (a20), .int .i64 (a21), .int .i64 (0), .int .i64 (0)]), (1, .box 82 [.bool (a24), .bool (a25), .bool (a26), .bool (a27), .bool (a28), .bool (a29), .bool (a30), .bool (a31)]), (2, .box 54 [.int .i64 (0), .int .i64 (0), .int .i64 (0), .int .i64 (0), .int .i64 (0), .int .i64 (0), .int .i64 (0), .int .i64 (0), .int .i64 (0), .int .i64 (0), .int .i64 (0), .int .i64 (0), .nils, .nils, .int .i64 (0), .int .i64 (0), .int .i64 (0), .int .i64 (0), .int .i64 (0), .int .i64 (0), .int .i64 (0), .int .i64 (0)])], 3, [], []⟩) h (fun Q h => ?_) (fun v11 h => ?_)
        · conv => whnf
          refine XSplit.mk (fun e => ?_) (fun e => ?_)
          · replace h := XSplit.t h e
            conv => whnf
            refine ⟨_, Weak.a ?_, h⟩; (conv => whnf); exact ⟨rfl, rfl, rfl, rfl, rfl⟩
          · replace h := XSplit.f h e
            conv => whnf
            refine ⟨_, Weak.a ?_, h⟩; (conv => whnf); exact ⟨rfl, rfl, rfl, rfl, rfl⟩
        · conv => whnf
          refine ASeq.joinW tab_ok mixed_ (fun v12 => ⟨[(2, .ptr 0 0), (3, .ptr 1 0), (4, .ptr 2 0)], [(0, .box 54 [.int .i64 (0), .int .i64 (0), .int .i64 (v8), .int .i64 (v9), .int .i64 (v11.fst), .int .i64 (v11.snd.fst), .int .i64 (v11.snd.snd.fst), .int .i64 (v11.snd.snd.snd.fst), .int .i64 (v11.snd.snd.snd.snd.fst), .int .i64 (v11.snd.snd.snd.snd.snd.fst), .int .i64 (v11.snd.snd.snd.snd.snd.snd.fst), .int .i64 (v11.snd.snd.snd.snd.snd.snd.snd), .sl (v12.fst) 76 (v12.snd.fst), .sl (v12.snd.snd.fst) 21 (v12.snd.snd.snd), .int .i64 (a16), .int .i64 (a17), .int .i64 (a18), .int .i64 (a19), .int .i64 (a20), .int .i64 (a21), .int .i64 (0), .int .i64 (0)]), (1, .box 82 [.bool (a24), .bool (a25), .bool (a26), .bool (a27), .bool (a28), .bool (a29), .bool (a30), .bool (a31)]), (2, .box 54 [.int .i64 (0), .int .i64 (0), .int .i64 (0), .int .i64 (0), .int .i64 (0), .int .i64 (0), .int .i64 (0), .int .i64 (0), .int .i64 (0), .int .i64 (0), .int .i64 (0), .int .i64 (0), .nils, .nils, .int .i64 (0), .int .i64 (0), .int .i64 (0), .int .i64 (0), .int .i64 (0), .int .i64 (0), .int .i64 (0), .int .i64 (0)])], 3, [], []⟩) h (fun Q h => ?_) (fun v12 h => ?_)
          · conv => whnf
            refine XSplit.mk (fun e => ?_) (fun e => ?_)
            · replace h := XSplit.t h e
              conv => whnf
              refine ⟨_, Weak.a ?_, h⟩; (conv => whnf); exact ⟨rfl, rfl, rfl, rfl, rfl⟩
            · replace h := XSplit.f h e
              conv => whnf
              refine ⟨_, Weak.a ?_, h⟩; (conv => whnf); exact ⟨rfl, rfl, rfl, rfl, rfl⟩
          · conv => whnf
            refine ASeq.joinW tab_ok mixed_ (fun v13 => ⟨[(2, .ptr 0 0), (3, .ptr 1 0), (4, .ptr 2 0)], [(0, .box 54 [.int .i64 (0), .int .i64 (0), .int .i64 (v8), .int .i64 (v9), .int .i64 (v11.fst), .int .i64 (v11.snd.fst), .int .i64 (v11.snd.snd.fst), .int .i64 (v11.snd.snd.snd.fst), .int .i64 (v11.snd.snd.snd.snd.fst), .int .i64 (v11.snd.snd.snd.snd.snd.fst), .int .i64 (v11.snd.snd.snd.snd.snd.snd.fst), .int .i64 (v11.snd.snd.snd.snd.snd.snd.snd), .sl (v12.fst) 76 (v12.snd.fst), .sl (v12.snd.snd.fst) 21 (v12.snd.snd.snd), .int .i64 (v13.fst), .int .i64 (v13.snd.fst), .int .i64 (a18), .int .i64 (a19), .int .i64 (v13.snd.snd), .int .i64 (a21), .int .i64 (0), .int .i64 (0)]), (1, .box 82 [.bool (a24), .bool (a25), .bool (a26), .bool (a27), .bool (a28), .bool (a29), .bool (a30), .bool (a31)]), (2, .box 54 [.int .i64 (0), .int .i64 (0), .int .i64 (0), .int .i64 (0), .int .i64 (0), .int .i64 (0), .int .i64 (0), .int .i64 (0), .int .i64 (0), .int .i64 (0), .int .i64 (0), .int .i64 (0), .nils, .nils, .int .i64 (0), .int .i64 (0), .int .i64 (0), .int .i64 (0), .int .i64 (0), .int .i64 (0), .int .i64 (0), .int .i64 (0)])], 3, [], []⟩) h (fun Q h => ?_) (fun v13 h => ?_)
            · conv => whnf
              refine XSplit.mk (fun e => ?_) (fun e => ?_)
              · replace h := XSplit.t h e
                conv => whnf
                refine ⟨_, Weak.a ?_, h⟩; (conv => whnf); exact ⟨rfl, rfl, rfl, rfl, rfl⟩
              · replace h := XSplit.f h e
                conv => whnf
                refine ⟨_, Weak.a ?_, h⟩; (conv => whnf); exact ⟨rfl, rfl, rfl, rfl, rfl⟩
            · conv => whnf
              refine ASeq.joinW tab_ok mixed_ (fun v14 => ⟨[(2, .ptr 0 0), (3, .ptr 1 0), (4, .ptr 2 0)], [(0, .box 54 [.int .i64 (0), .int .i64 (0), .int .i64 (v8), .int .i64 (v9), .int .i64 (v11.fst), .int .i64 (v11.snd.fst), .int .i64 (v11.snd.snd.fst), .int .i64 (v11.snd.snd.snd.fst), .int .i64 (v11.snd.snd.snd.snd.fst), .int .i64 (v11.snd.snd.snd.snd.snd.fst), .int .i64 (v11.snd.snd.snd.snd.snd.snd.fst), .int .i64 (v11.snd.snd.snd.snd.snd.snd.snd), .sl (v12.fst) 76 (v12.snd.fst), .sl (v12.snd.snd.fst) 21 (v12.snd.snd.snd), .int .i64 (v13.fst), .int .i64 (v13.snd.fst), .int .i64 (v14.fst), .int .i64 (v14.snd), .int .i64 (v13.snd.snd), .int .i64 (a21), .int .i64 (0), .int .i64 (0)]), (1, .box 82 [.bool (a24), .bool (a25), .bool (a26), .bool (a27), .bool (a28), .bool (a29), .bool (a30), .bool (a31)]), (2, .box 54 [.int .i64 (0), .int .i64 (0), .int .i64 (0), .int .i64 (0), .int .i64 (0), .int .i64 (0), .int .i64 (0), .int .i64 (0), .int .i64 (0), .int .i64 (0), .int .i64 (0), .int .i64 (0), .nils, .nils, .int .i64 (0), .int .i64 (0), .int .i64 (0), .int .i64 (0), .int .i64 (0), .int .i64 (0), .int .i64 (0), .int .i64 (0)])], 3, [], []⟩) h (fun Q h => ?_) (fun v14 h => ?_)
              · conv => whnf
                refine XSplit.mk (fun e => ?_) (fun e => ?_)
                · replace h := XSplit.t h e
                  conv => whnf
                  refine ⟨_, Weak.a ?_, h⟩; (conv => whnf); exact ⟨rfl, rfl, rfl, rfl, rfl⟩
                · replace h := XSplit.f h e
                  conv => whnf
                  refine ⟨_, Weak.a ?_, h⟩; (conv => whnf); exact ⟨rfl, rfl, rfl, rfl, rfl⟩
              · conv => whnf
                refine ASeq.joinW tab_ok mixed_ (fun v15 => ⟨[(2, .ptr 0 0), (4, .ptr 1 0)], [(0, .box 54 [.int .i64 (0), .int .i64 (0), .int .i64 (v8), .int .i64 (v9), .int .i64 (v11.fst), .int .i64 (v11.snd.fst), .int .i64 (v11.snd.snd.fst), .int .i64 (v11.snd.snd.snd.fst), .int .i64 (v11.snd.snd.snd.snd.fst), .int .i64 (v11.snd.snd.snd.snd.snd.fst), .int .i64 (v11.snd.snd.snd.snd.snd.snd.fst), .int .i64 (v11.snd.snd.snd.snd.snd.snd.snd), .sl (v12.fst) 76 (v12.snd.fst), .sl (v12.snd.snd.fst) 21 (v12.snd.snd.snd), .int .i64 (v13.fst), .int .i64 (v13.snd.fst), .int .i64 (v14.fst), .int .i64 (v14.snd), .int .i64 (v13.snd.snd), .int .i64 (v15), .int .i64 (0), .int .i64 (0)]), (1, .box 54 [.int .i64 (0), .int .i64 (0), .int .i64 (0), .int .i64 (0), .int .i64 (0), .int .i64 (0), .int .i64 (0), .int .i64 (0), .int .i64 (0), .int .i64 (0), .int .i64 (0), .int .i64 (0), .nils, .nils, .int .i64 (0), .int .i64 (0), .int .i64 (0), .int .i64 (0), .int .i64 (0), .int .i64 (0), .int .i64 (0), .int .i64 (0)])], 2, [], []⟩) h (fun Q h => ?_) (fun v15 h => ?_)
                · conv => whnf
                  refine XSplit.mk (fun e => ?_) (fun e => ?_)
                  · replace h := XSplit.t h e
                    conv => whnf
                    refine ⟨_, Weak.a ?_, h⟩; (conv => whnf); exact ⟨rfl, rfl, rfl, rfl, rfl⟩
                  · replace h := XSplit.f h e
                    conv => whnf
                    refine ⟨_, Weak.a ?_, h⟩; (conv => whnf); exact ⟨rfl, rfl, rfl, rfl, rfl⟩
                · conv => whnf
                  refine ⟨_, Weak.a ?_, h⟩; (conv => whnf); exact ⟨rfl, rfl, rfl, rfl, rfl⟩

theorem c42 {a0 : Int} {a1 : Int} {a2 : Int} {a3 : Int} {a4 : Int} {a5 : Int} {a6 : Int} {a7 : Int} {a8 : Int} {a9 : Int} {a10 : Int} {a11 : Int} {a12 : Bool} {a13 : Rws} {a14 : Bool} {a15 : Rws} {a16 : Int} {a17 : Int} {a18 : Int} {a19 : Int} {a20 : Int} {a21 : Int} {a22 : Int} {a23 : Int} {Q : Bool → Prop} {R : AV → List AB → Prop} (h : (g_model_empty a0 a1 a2 a3 a4 a5 a6 a7 a8 a9 a10 a11 a12 a13 a14 a15 a16 a17 a18 a19 a20 a21 a22 a23).run Q) (k : ∀ r, Q r → R (.bool (r)) []) : ACalls Try.prog tab 42 [.agg [.int .i64 (a0), .int .i64 (a1), .int .i64 (a2), .int .i64 (a3), .int .i64 (a4), .int .i64 (a5), .int .i64 (a6), .int .i64 (a7), .int .i64 (a8), .int .i64 (a9), .int .i64 (a10), .int .i64 (a11), .sl (a12) 76 (a13), .sl (a14) 21 (a15), .int .i64 (a16), .int .i64 (a17), .int .i64 (a18), .int .i64 (a19), .int .i64 (a20), .int .i64 (a21), .int .i64 (a22), .int .i64 (a23)]] [] R := by
  refine ACalls.out (fun r => .bool (r)) (fun r => []) (Q := Q) (ACalls.introX tab_ok mixed_ (fn := Try.f42) (by kernel_rfl) rfl (by kernel_rfl) (by kernel_rfl) (Nat.le_of_ble_eq_true rfl) ?_) (by intros; intro e; cases e) (by intros; intro e; cases e) k
  conv => whnf
  refine ⟨_, Weak.a ?_, h⟩; (conv => whnf); exact ⟨rfl, rfl, rfl, rfl, rfl⟩

theorem c46 {a0 : Int} {a1 : Int} {a2 : Int} {Q : Bool → Prop} {R : AV → List AB → Prop} (h : (g_window_within a0 a1 a2).run Q) (k : ∀ r, Q r → R (.bool (r)) []) : ACalls Try.prog tab 46 [.int .i64 (a0), .int .i64 (a1), .int .i64 (a2)] [] R := by
  refine ACalls.out (fun r => .bool (r)) (fun r => []) (Q := Q) (ACalls.introX tab_ok mixed_ (fn := Try.f46) (by kernel_rfl) rfl (by kernel_rfl) (by kernel_rfl) (Nat.le_of_ble_eq_true rfl) ?_) (by intros; intro e; cases e) (by intros; intro e; cases e) k
  conv => whnf
  refine ⟨_, Weak.a ?_, h⟩; (conv => whnf); exact ⟨rfl, rfl, rfl, rfl, rfl⟩

theorem c37 {a0 : Int} {a1 : Int} {a2 : Int} {a3 : Int} {Q : Bool → Prop} {R : AV → List AB → Prop} (h : (g_window_side a0 a1 a2 a3).run Q) (k : ∀ r, Q r → R (.bool (r)) []) : ACalls Try.prog tab 37 [.int .i64 (a0), .int .i64 (a1), .int .i64 (a2), .int .i64 (a3)] [] R := by
  refine ACalls.out (fun r => .bool (r)) (fun r => []) (Q := Q) (ACalls.introX tab_ok mixed_ (fn := Try.f37) (by kernel_rfl) rfl (by kernel_rfl) (by kernel_rfl) (Nat.le_of_ble_eq_true rfl) ?_) (by intros; intro e; cases e) (by intros; intro e; cases e) k
  conv => whnf
  refine ASeq.joinW tab_ok mixed_ (fun v5 => ⟨[(8, .bool (v5))], [], 0, [], []⟩) h (fun Q h => ?_) (fun v5 h => ?_)
  · conv => whnf
    refine ACalls.inn (c46 (W.bindE h) (fun v6 h => ?_)) rfl
    conv => whnf
    refine XSplit.mk (fun e => ?_) (fun e => ?_)
    · replace h := XSplit.t h e
      conv => whnf
      refine ACalls.inn (c46 (W.bindE h) (fun v7 h => ?_)) rfl
      conv => whnf
      refine XSplit.mk (fun e => ?_) (fun e => ?_)
      · replace h := XSplit.t h e
        conv => whnf
        refine ACalls.inn (c46 (W.bindE h) (fun v8 h => ?_)) rfl
        conv => whnf
        refine XSplit.mk (fun e => ?_) (fun e => ?_)
        · replace h := XSplit.t h e
          conv => whnf
          refine ACalls.inn (c46 (W.bindE h) (fun v9 h => ?_)) rfl
          conv => whnf
          refine ⟨_, Weak.a ?_, h⟩; (conv => whnf); exact ⟨rfl, rfl, rfl, rfl, rfl⟩
        · replace h := XSplit.f h e
          conv => whnf
          refine ⟨_, Weak.a ?_, h⟩; (conv => whnf); exact ⟨rfl, rfl, rfl, rfl, rfl⟩
      · replace h := XSplit.f h e
        conv => whnf
        refine ⟨_, Weak.a ?_, h⟩; (conv => whnf); exact ⟨rfl, rfl, rfl, rfl, rfl⟩
    · replace h := XSplit.f h e
      conv => whnf
      refine ⟨_, Weak.a ?_, h⟩; (conv => whnf); exact ⟨rfl, rfl, rfl, rfl, rfl⟩
  · conv => whnf
    refine ⟨_, Weak.a ?_, h⟩; (conv => whnf); exact ⟨rfl, rfl, rfl, rfl, rfl⟩

theorem c27 {a0 : Int} {a1 : Int} {a2 : Int} {a3 : Int} {a4 : Int} {a5 : Int} {a6 : Int} {a7 : Int} {Q : Bool → Prop} {R : AV → List AB → Prop} (h : (g_window_Valid a0 a1 a2 a3 a4 a5 a6 a7).run Q) (k : ∀ r, Q r → R (.bool (r)) []) : ACalls Try.prog tab 27 [.agg [.int .i64 (a0), .int .i64 (a1), .int .i64 (a2), .int .i64 (a3), .int .i64 (a4), .int .i64 (a5), .int .i64 (a6), .int .i64 (a7)]] [] R := by
  refine ACalls.out (fun r => .bool (r)) (fun r => []) (Q := Q) (ACalls.introX tab_ok mixed_ (fn := Try.f27) (by kernel_rfl) rfl (by kernel_rfl) (by kernel_rfl) (Nat.le_of_ble_eq_true rfl) ?_) (by intros; intro e; cases e) (by intros; intro e; cases e) k
  conv => whnf
  refine ASeq.joinW tab_ok mixed_ (fun v3 => ⟨[(2, .bool (v3))], [], 0, [], []⟩) h (fun Q h => ?_) (fun v3 h => ?_)
  · conv => whnf
    refine ACalls.inn (c37 (W.bindE h) (fun v4 h => ?_)) rfl
    conv => whnf
    refine XSplit.mk (fun e => ?_) (fun e => ?_)
    · replace h := XSplit.t h e
      conv => whnf
      refine ACalls.inn (c37 (W.bindE h) (fun v5 h => ?_)) rfl
      conv => whnf
      refine ⟨_, Weak.a ?_, h⟩; (conv => whnf); exact ⟨rfl, rfl, rfl, rfl, rfl⟩
    · replace h := XSplit.f h e
      conv => whnf
      refine ⟨_, Weak.a ?_, h⟩; (conv => whnf); exact ⟨rfl, rfl, rfl, rfl, rfl⟩
  · conv => whnf
    refine ⟨_, Weak.a ?_, h⟩; (conv => whnf); exact ⟨rfl, rfl, rfl, rfl, rfl⟩

theorem c19 {a0 : Int} {a1 : Int} {a2 : Int} {a3 : Int} {a4 : Int} {a5 : Int} {a6 : Int} {a7 : Int} {a8 : Int} {a9 : Int} {a10 : Int} {Q : Int × Int × Int → Prop} {R : AV → List AB → Prop} (h : (g_window_Out a0 a1 a2 a3 a4 a5 a6 a7 a8 a9 a10).run Q) (k : ∀ r, Q r → R (.tup [.int .i64 (r.fst), .int .i64 (r.snd.fst), .int .i64 (r.snd.snd)]) []) : ACalls Try.prog tab 19 [.agg [.int .i64 (a0), .int .i64 (a1), .int .i64 (a2)], .agg [.int .i64 (a3), .int .i64 (a4), .int .i64 (a5), .int .i64 (a6), .int .i64 (a7), .int .i64 (a8), .int .i64 (a9), .int .i64 (a10)]] [] R := by
  refine ACalls.out (fun r => .tup [.int .i64 (r.fst), .int .i64 (r.snd.fst), .int .i64 (r.snd.snd)]) (fun r => []) (Q := Q) (ACalls.introX tab_ok mixed_ (fn := Try.f19) (by kernel_rfl) rfl (by kernel_rfl) (by kernel_rfl) (Nat.le_of_ble_eq_true rfl) ?_) (by intros; intro e; cases e) (by intros; intro e; cases e) k
  conv => whnf
  refine ASeq.go tab_ok mixed_ ?_
  conv => whnf
  refine ACalls.inn (c18 (W.bindE h) (fun v2 h => ?_)) rfl
  conv => whnf
  refine XSplit.mk (fun e => ?_) (fun e => ?_)
  · replace h := XSplit.t h e
    conv => whnf
    refine ⟨_, Weak.a ?_, h⟩; (conv => whnf); exact ⟨rfl, rfl, rfl, rfl, rfl⟩
  · replace h := XSplit.f h e
    conv => whnf
    refine ASeq.go tab_ok mixed_ ?_
    conv => whnf
    refine ACalls.inn (c27 (W.bindE h) (fun v3 h => ?_)) rfl
    conv => whnf
    refine XSplit.mk (fun e => ?_) (fun e => ?_)
    · replace h := XSplit.t h e
      conv => whnf
      refine ⟨_, Weak.a ?_, h⟩; (conv => whnf); exact ⟨rfl, rfl, rfl, rfl, rfl⟩
    · replace h := XSplit.f h e
      conv => whnf
      refine XDraw.q [0, 1, 2, 3, 4, 5, 6, 7, 8, 9, 10, 11, 12, 13, 14, 15, 16, 17, 18, 19, 20, 21, 22, 23] (by decide +kernel) ?_
      conv => whnf
      refine ASeq.go tab_ok mixed_ ?_
      conv => whnf
      refine XSplit.mk (fun e => ?_) (fun e => ?_)
      · replace h := XSplit.t h e
        conv => whnf
        refine ⟨_, Weak.a ?_, h⟩; (conv => whnf); exact ⟨rfl, rfl, rfl, rfl, rfl⟩
      · replace h := XSplit.f h e
        conv => whnf
        refine XDraw.q [0, 1, 2, 3, 4, 5, 6, 7, 8, 9, 10, 11, 12] (by decide +kernel) ?_
        conv => whnf
        refine XNeed.mk (XNeed.c h) ?_; replace h := XNeed.x h
        conv => whnf
        refine XNeed.mk (XNeed.c h) ?_; replace h := XNeed.x h
        conv => whnf
        refine ⟨_, Weak.a ?_, h⟩; (conv => whnf); exact ⟨rfl, rfl, rfl, rfl, rfl⟩

theorem c44 {a0 : Int} {a1 : Int} {a2 : Int} {a3 : Int} {a4 : Int} {a5 : Int} {a6 : Int} {a7 : Int} {a8 : Int} {a9 : Int} {a10 : Int} {a11 : Int} {a12 : Bool} {a13 : Rws} {a14 : Bool} {a15 : Rws} {a16 : Int} {a17 : Int} {a18 : Int} {a19 : Int} {a20 : Int} {a21 : Int} {a22 : Int} {a23 : Int} {a24 : Int} {a25 : Int} {a26 : Int} {Q : Int × Int × Int × Int × Int × Int → Prop} {R : AV → List AB → Prop} (h : (g_model_makes a0 a1 a2 a3 a4 a5 a6 a7 a8 a9 a10 a11 a12 a13 a14 a15 a16 a17 a18 a19 a20 a21 a22 a23 a24 a25 a26).run Q) (k : ∀ r, Q r → R (.tup [.agg [.int .i64 (r.fst), .int .i64 (r.snd.fst), .int .i64 (r.snd.snd.fst)], .int .i64 (r.snd.snd.snd.fst), .int .i64 (r.snd.snd.snd.snd.fst), .int .i64 (r.snd.snd.snd.snd.snd)]) []) : ACalls Try.prog tab 44 [.agg [.int .i64 (a0), .int .i64 (a1), .int .i64 (a2), .int .i64 (a3), .int .i64 (a4), .int .i64 (a5), .int .i64 (a6), .int .i64 (a7), .int .i64 (a8), .int .i64 (a9), .int .i64 (a10), .int .i64 (a11), .sl (a12) 76 (a13), .sl (a14) 21 (a15), .int .i64 (a16), .int .i64 (a17), .int .i64 (a18), .int .i64 (a19), .int .i64 (a20), .int .i64 (a21), .int .i64 (a22), .int .i64 (a23)], .agg [.int .i64 (a24), .int .i64 (a25), .int .i64 (a26)]] [] R := by
  refine ACalls.out (fun r => .tup [.agg [.int .i64 (r.fst), .int .i64 (r.snd.fst), .int .i64 (r.snd.snd.fst)], .int .i64 (r.snd.snd.snd.fst), .int .i64 (r.snd.snd.snd.snd.fst), .int .i64 (r.snd.snd.snd.snd.snd)]) (fun r => []) (Q := Q) (ACalls.introX tab_ok mixed_ (fn := Try.f44) (by kernel_rfl) rfl (by kernel_rfl) (by kernel_rfl) (Nat.le_of_ble_eq_true rfl) ?_) (by intros; intro e; cases e) (by intros; intro e; cases e) k
  conv => whnf
  refine ACalls.inn (c41 (W.bindE h) (fun v5 h => ?_)) rfl
  conv => whnf
  refine ASeq.joinE tab_ok mixed_ (fun v6 => ⟨[(2, .ptr 0 0), (3, .ptr 1 0), (4, .ptr 2 0), (5, .int .i64 (0)), (6, .int .i64 (0)), (7, .int .i64 (0)), (10, .ptr 3 0), (11, .int .i64 (v6.fst))], [(0, .box 54 [.int .i64 (a0), .int .i64 (a1), .int .i64 (a2), .int .i64 (a3), .int .i64 (a4), .int .i64 (a5), .int .i64 (a6), .int .i64 (a7), .int .i64 (a8), .int .i64 (a9), .int .i64 (a10), .int .i64 (a11), .sl (a12) 76 (a13), .sl (a14) 21 (a15), .int .i64 (a16), .int .i64 (a17), .int .i64 (a18), .int .i64 (a19), .int .i64 (a20), .int .i64 (a21), .int .i64 (a22), .int .i64 (a23)]), (1, .box 23 [.int .i64 (a24), .int .i64 (a25), .int .i64 (a26)]), (2, .box 23 [.int .i64 (0), .int .i64 (0), .int .i64 (0)]), (3, .box 23 [.int .i64 (v6.snd.fst), .int .i64 (v6.snd.snd), .int .i64 (a26)])], 4, [], []⟩) h (fun Q h => ?_) (fun v6 h => ?_)
  · conv => whnf
    refine XSplit.mk (fun e => ?_) (fun e => ?_)
    · replace h := XSplit.t h e
      conv => whnf
      refine ACalls.inn (c19 (W.bindE h) (fun v7 h => ?_)) rfl
      conv => whnf
      refine ASeq.go tab_ok mixed_ ?_
      conv => whnf
      refine XSplit.mk (fun e => ?_) (fun e => ?_)
      · replace h := XSplit.t h e
        conv => whnf
        refine ⟨_, Weak.a ?_, h⟩; (conv => whnf); exact ⟨rfl, rfl, rfl, rfl, rfl⟩
      · replace h := XSplit.f h e
        conv => whnf
        refine XDraw.d [0, 1, 2, 3, 4, 5, 6, 7, 8, 9, 10, 11, 12, 13] (by decide +kernel) ?_
        conv => whnf
        refine ⟨_, Weak.a ?_, h⟩; (conv => whnf); exact ⟨rfl, rfl, rfl, rfl, rfl⟩
    · replace h := XSplit.f h e
      conv => whnf
      refine ⟨_, Weak.a ?_, h⟩; (conv => whnf); exact ⟨rfl, rfl, rfl, rfl, rfl⟩
  · conv => whnf
    refine ASeq.joinW tab_ok mixed_ (fun v8 => ⟨[(4, .ptr 0 0), (5, .int .i64 (0)), (6, .int .i64 (0)), (7, .int .i64 (0)), (10, .ptr 1 0), (11, .int .i64 (v8.fst)), (15, .int .i64 (v8.snd.fst))], [(0, .box 23 [.int .i64 (0), .int .i64 (0), .int .i64 (0)]), (1, .box 23 [.int .i64 (v8.snd.snd.fst), .int .i64 (v8.snd.snd.snd.fst), .int .i64 (v8.snd.snd.snd.snd)])], 2, [], []⟩) h (fun Q h => ?_) (fun v8 h => ?_)
    · conv => whnf
      refine XSplit.mk (fun e => ?_) (fun e => ?_)
      · replace h := XSplit.t h e
        conv => whnf
        refine XDraw.d [0, 1, 2, 3, 4, 5, 6, 7, 8, 9, 10, 11, 12] (by decide +kernel) ?_
        conv => whnf
        refine ⟨_, Weak.a ?_, h⟩; (conv => whnf); exact ⟨rfl, rfl, rfl, rfl, rfl⟩
      · replace h := XSplit.f h e
        conv => whnf
        refine XSplit.mk (fun e => ?_) (fun e => ?_)
        · replace h := XSplit.t h e
          conv => whnf
          refine XDraw.d [0, 1, 2, 3, 4, 5] (by decide +kernel) ?_
          conv => whnf
          refine ⟨_, Weak.a ?_, h⟩; (conv => whnf); exact ⟨rfl, rfl, rfl, rfl, rfl⟩
        · replace h := XSplit.f h e
          conv => whnf
          refine ASeq.joinW tab_ok mixed_ (fun v9 => ⟨[(4, .ptr 0 0), (5, .int .i64 (0)), (6, .int .i64 (0)), (7, .int .i64 (0)), (10, .ptr 1 0), (11, .int .i64 (v6.fst)), (15, .int .i64 (0)), (74, .bool (v9))], [(0, .box 23 [.int .i64 (0), .int .i64 (0), .int .i64 (0)]), (1, .box 23 [.int .i64 (v6.snd.fst), .int .i64 (v6.snd.snd), .int .i64 (a26)])], 2, [], []⟩) h (fun Q h => ?_) (fun v9 h => ?_)
          · conv => whnf
            refine XSplit.mk (fun e => ?_) (fun e => ?_)
            · replace h := XSplit.t h e
              conv => whnf
              refine ⟨_, Weak.a ?_, h⟩; (conv => whnf); exact ⟨rfl, rfl, rfl, rfl, rfl⟩
            · replace h := XSplit.f h e
              conv => whnf
              refine ⟨_, Weak.a ?_, h⟩; (conv => whnf); exact ⟨rfl, rfl, rfl, rfl, rfl⟩
          · conv => whnf
            refine XSplit.mk (fun e => ?_) (fun e => ?_)
            · replace h := XSplit.t h e
              conv => whnf
              refine ⟨_, Weak.a ?_, h⟩; (conv => whnf); exact ⟨rfl, rfl, rfl, rfl, rfl⟩
            · replace h := XSplit.f h e
              conv => whnf
              refine ⟨_, Weak.a ?_, h⟩; (conv => whnf); exact ⟨rfl, rfl, rfl, rfl, rfl⟩
    · conv => whnf
      refine XDraw.d [0, 1, 2, 3, 4, 5, 6, 7, 8, 9, 10, 11, 12, 13, 14, 15] (by decide +kernel) ?_
      conv => whnf
      refine ⟨_, Weak.a ?_, h⟩; (conv => whnf); exact ⟨rfl, rfl, rfl, rfl, rfl⟩

theorem c45 {a0 : Int} {a1 : Int} {Q : Bool → Prop} {R : AV → List AB → Prop} (h : (g_fixq_Valid a0 a1).run Q) (k : ∀ r, Q r → R (.bool (r)) []) : ACalls Try.prog tab 45 [.agg [.int .i64 (a0), .int .i64 (a1)]] [] R := by
  refine ACalls.out (fun r => .bool (r)) (fun r => []) (Q := Q) (ACalls.introX tab_ok mixed_ (fn := Try.f45) (by kernel_rfl) rfl (by kernel_rfl) (by kernel_rfl) (Nat.le_of_ble_eq_true rfl) ?_) (by intros; intro e; cases e) (by intros; intro e; cases e) k
  conv => whnf
  refine ⟨_, Weak.a ?_, h⟩; (conv => whnf); exact ⟨rfl, rfl, rfl, rfl, rfl⟩

theorem c36 {a0 : Int} {a1 : Int} {a2 : Int} {a3 : Int} {a4 : Int} {a5 : Int} {a6 : Int} {a7 : Int} {a8 : Int} {a9 : Int} {a10 : Int} {a11 : Int} {a12 : Bool} {a13 : Rws} {a14 : Bool} {a15 : Rws} {a16 : Int} {a17 : Int} {a18 : Int} {a19 : Int} {a20 : Int} {a21 : Int} {a22 : Int} {a23 : Int} {a24 : Bool} {a25 : Rws} {Q : Int × Int × Int × Int × Int → Prop} {R : AV → List AB → Prop} (h : (g_model_op a0 a1 a2 a3 a4 a5 a6 a7 a8 a9 a10 a11 a12 a13 a14 a15 a16 a17 a18 a19 a20 a21 a22 a23 a24 a25).run Q) (k : ∀ r, Q r → R (.tup [.agg [.int .i64 (r.fst), .int .i64 (r.snd.fst), .int .i64 (r.snd.snd.fst)], .int .i64 (r.snd.snd.snd.fst), .int .i64 (r.snd.snd.snd.snd)]) []) : ACalls Try.prog tab 36 [.agg [.int .i64 (a0), .int .i64 (a1), .int .i64 (a2), .int .i64 (a3), .int .i64 (a4), .int .i64 (a5), .int .i64 (a6), .int .i64 (a7), .int .i64 (a8), .int .i64 (a9), .int .i64 (a10), .int .i64 (a11), .sl (a12) 76 (a13), .sl (a14) 21 (a15), .int .i64 (a16), .int .i64 (a17), .int .i64 (a18), .int .i64 (a19), .int .i64 (a20), .int .i64 (a21), .int .i64 (a22), .int .i64 (a23)], .sl (a24) 23 (a25)] [] R := by
  refine ACalls.out (fun r => .tup [.agg [.int .i64 (r.fst), .int .i64 (r.snd.fst), .int .i64 (r.snd.snd.fst)], .int .i64 (r.snd.snd.snd.fst), .int .i64 (r.snd.snd.snd.snd)]) (fun r => []) (Q := Q) (ACalls.introX tab_ok mixed_ (fn := Try.f36) (by kernel_rfl) rfl (by kernel_rfl) (by kernel_rfl) (Nat.le_of_ble_eq_true rfl) ?_) (by intros; intro e; cases e) (by intros; intro e; cases e) k
  conv => whnf
  refine ACalls.inn (c41 (W.bindE h) (fun v11 h => ?_)) rfl
  conv => whnf
  refine ASeq.go tab_ok mixed_ ?_
  conv => whnf
  refine XSplit.mk (fun e => ?_) (fun e => ?_)
  · replace h := XSplit.t h e
    conv => whnf
    refine ⟨_, Weak.a ?_, h⟩; (conv => whnf); exact ⟨rfl, rfl, rfl, rfl, rfl⟩
  · replace h := XSplit.f h e
    conv => whnf
    refine XSplit.mk (fun e => ?_) (fun e => ?_)
    · replace h := XSplit.t h e
      conv => whnf
      refine ⟨_, Weak.a ?_, h⟩; (conv => whnf); exact ⟨rfl, rfl, rfl, rfl, rfl⟩
    · replace h := XSplit.f h e
      conv => whnf
      refine ACalls.inn (c43 (W.bindE h) (fun v12 h => ?_)) rfl
      conv => whnf
      refine ACalls.inn (c42 (W.bindE h) (fun v13 h => ?_)) rfl
      conv => whnf
      refine XSplit.mk (fun e => ?_) (fun e => ?_)
      · replace h := XSplit.t h e
        conv => whnf
        refine ⟨_, Weak.a ?_, h⟩; (conv => whnf); exact ⟨rfl, rfl, rfl, rfl, rfl⟩
      · replace h := XSplit.f h e
        conv => whnf
        refine XSplit.mk (fun e => ?_) (fun e => ?_)
        · replace h := XSplit.t h e
          conv => whnf
          refine ⟨_, Weak.a ?_, h⟩; (conv => whnf); exact ⟨rfl, rfl, rfl, rfl, rfl⟩
        · replace h := XSplit.f h e
          conv => whnf
          refine XNeed.mk (XNeed.c h) ?_; replace h := XNeed.x h
          conv => whnf
          refine ACalls.inn (c44 (W.bindE h) (fun v14 h => ?_)) rfl
          conv => whnf
          refine ASeq.go tab_ok mixed_ ?_
          conv => whnf
          refine XSplit.mk (fun e => ?_) (fun e => ?_)
          · replace h := XSplit.t h e
            conv => whnf
            refine ⟨_, Weak.a ?_, h⟩; (conv => whnf); exact ⟨rfl, rfl, rfl, rfl, rfl⟩
          · replace h := XSplit.f h e
            conv => whnf
            refine ASeq.go tab_ok mixed_ ?_
            conv => whnf
            refine ACalls.inn (c18 (W.bindE h) (fun v15 h => ?_)) rfl
            conv => whnf
            refine XDraw.q [0, 1, 2, 3, 4, 5, 6, 7, 8, 9, 10, 11, 12, 13, 14] (by decide +kernel) ?_
            conv => whnf
            refine XNeed.mk (XNeed.c h) ?_; replace h := XNeed.x h
            conv => whnf
            refine XSplit.mk (fun e => ?_) (fun e => ?_)
            · replace h := XSplit.t h e
              conv => whnf
              refine ⟨_, Weak.a ?_, h⟩; (conv => whnf); exact ⟨rfl, rfl, rfl, rfl, rfl⟩
            · replace h := XSplit.f h e
              conv => whnf
              refine ASeq.joinW tab_ok mixed_ (fun v16 => ⟨[(2, .ptr 0 0), (4, .ptr 1 0), (5, .int .i64 (0)), (6, .int .i64 (0)), (7, .ptr 2 0), (8, .ptr 3 0), (11, .ptr 4 0), (12, .int .i64 (v14.snd.snd.snd.fst)), (13, .int .i64 (v14.snd.snd.snd.snd.fst)), (17, .int .i64 (v16))], [(0, .box 54 [.int .i64 (a0), .int .i64 (a1), .int .i64 (a2), .int .i64 (a3), .int .i64 (a4), .int .i64 (a5), .int .i64 (a6), .int .i64 (a7), .int .i64 (a8), .int .i64 (a9), .int .i64 (a10), .int .i64 (a11), .sl (a12) 76 (a13), .sl (a14) 21 (a15), .int .i64 (a16), .int .i64 (a17), .int .i64 (a18), .int .i64 (a19), .int .i64 (a20), .int .i64 (a21), .int .i64 (a22), .int .i64 (a23)]), (1, .box 23 [.int .i64 (0), .int .i64 (0), .int .i64 (0)]), (2, .box 23 [.int .i64 (0), .int .i64 (0), .int .i64 (0)]), (3, .box 82 [.bool (v11.fst), .bool (v11.snd.fst), .bool (v11.snd.snd.fst), .bool (v11.snd.snd.snd.fst), .bool (v11.snd.snd.snd.snd.fst), .bool (v11.snd.snd.snd.snd.snd.fst), .bool (v11.snd.snd.snd.snd.snd.snd.fst), .bool (v11.snd.snd.snd.snd.snd.snd.snd.fst)]), (4, .box 23 [.int .i64 (v14.fst), .int .i64 (v14.snd.fst), .int .i64 (v14.snd.snd.fst)])], 5, [], []⟩) h (fun Q h => ?_) (fun v16 h => ?_)
              · conv => whnf
                refine XSplit.mk (fun e => ?_) (fun e => ?_)
                · replace h := XSplit.t h e
                  conv => whnf
                  refine ⟨_, Weak.a ?_, h⟩; (conv => whnf); exact ⟨rfl, rfl, rfl, rfl, rfl⟩
                · replace h := XSplit.f h e
                  conv => whnf
                  refine ⟨_, Weak.a ?_, h⟩; (conv => whnf); exact ⟨rfl, rfl, rfl, rfl, rfl⟩
              · conv => whnf
                refine ASeq.go tab_ok mixed_ ?_
                conv => whnf
                refine XSplit.mk (fun e => ?_) (fun e => ?_)
                · replace h := XSplit.t h e
                  conv => whnf
                  refine ⟨_, Weak.a ?_, h⟩; (conv => whnf); exact ⟨rfl, rfl, rfl, rfl, rfl⟩
                · replace h := XSplit.f h e
                  conv => whnf
                  refine XSplit.mk (fun e => ?_) (fun e => ?_)
                  · replace h := XSplit.t h e
                    conv => whnf
                    refine ⟨_, Weak.a ?_, h⟩; (conv => whnf); exact ⟨rfl, rfl, rfl, rfl, rfl⟩
                  · replace h := XSplit.f h e
                    conv => whnf
                    refine ASeq.joinW tab_ok mixed_ (fun v17 => ⟨[(2, .ptr 0 0), (4, .ptr 1 0), (5, .int .i64 (0)), (6, .int .i64 (0)), (7, .ptr 2 0), (11, .ptr 3 0), (13, .int .i64 (v14.snd.snd.snd.snd.fst)), (140, .bool (v17))], [(0, .box 54 [.int .i64 (a0), .int .i64 (a1), .int .i64 (a2), .int .i64 (a3), .int .i64 (a4), .int .i64 (a5), .int .i64 (a6), .int .i64 (a7), .int .i64 (a8), .int .i64 (a9), .int .i64 (a10), .int .i64 (a11), .sl (a12) 76 (a13), .sl (a14) 21 (a15), .int .i64 (a16), .int .i64 (a17), .int .i64 (a18), .int .i64 (a19), .int .i64 (a20), .int .i64 (a21), .int .i64 (a22), .int .i64 (a23)]), (1, .box 23 [.int .i64 (0), .int .i64 (0), .int .i64 (0)]), (2, .box 23 [.int .i64 (0), .int .i64 (0), .int .i64 (0)]), (3, .box 23 [.int .i64 (v14.fst), .int .i64 (v14.snd.fst), .int .i64 (v14.snd.snd.fst)])], 4, [], []⟩) h (fun Q h => ?_) (fun v17 h => ?_)
                    · conv => whnf
                      refine XSplit.mk (fun e => ?_) (fun e => ?_)
                      · replace h := XSplit.t h e
                        conv => whnf
                        refine ACalls.inn (c45 (W.bindE h) (fun v18 h => ?_)) rfl
                        conv => whnf
                        refine XSplit.mk (fun e => ?_) (fun e => ?_)
                        · replace h := XSplit.t h e
                          conv => whnf
                          refine ⟨_, Weak.a ?_, h⟩; (conv => whnf); exact ⟨rfl, rfl, rfl, rfl, rfl⟩
                        · replace h := XSplit.f h e
                          conv => whnf
                          refine XSplit.mk (fun e => ?_) (fun e => ?_)
                          · replace h := XSplit.t h e
                            conv => whnf
                            refine ACalls.inn (c45 (W.bindE h) (fun v19 h => ?_)) rfl
                            conv => whnf
                            refine ⟨_, Weak.a ?_, h⟩; (conv => whnf); exact ⟨rfl, rfl, rfl, rfl, rfl⟩
                          · replace h := XSplit.f h e
                            conv => whnf
                            refine ⟨_, Weak.a ?_, h⟩; (conv => whnf); exact ⟨rfl, rfl, rfl, rfl, rfl⟩
                      · replace h := XSplit.f h e
                        conv => whnf
                        refine XSplit.mk (fun e => ?_) (fun e => ?_)
                        · replace h := XSplit.t h e
                          conv => whnf
                          refine ACalls.inn (c45 (W.bindE h) (fun v20 h => ?_)) rfl
                          conv => whnf
                          refine ⟨_, Weak.a ?_, h⟩; (conv => whnf); exact ⟨rfl, rfl, rfl, rfl, rfl⟩
                        · replace h := XSplit.f h e
                          conv => whnf
                          refine ⟨_, Weak.a ?_, h⟩; (conv => whnf); exact ⟨rfl, rfl, rfl, rfl, rfl⟩
                    · conv => whnf
                      refine XSplit.mk (fun e => ?_) (fun e => ?_)
                      · replace h := XSplit.t h e
                        conv => whnf
                        refine ⟨_, Weak.a ?_, h⟩; (conv => whnf); exact ⟨rfl, rfl, rfl, rfl, rfl⟩
                      · replace h := XSplit.f h e
                        conv => whnf
                        refine ACalls.inn (c35 (W.bindE h) (fun v21 h => ?_)) rfl
                        conv => whnf
                        refine XSplit.mk (fun e => ?_) (fun e => ?_)
                        · replace h := XSplit.t h e
                          conv => whnf
                          refine ⟨_, Weak.a ?_, h⟩; (conv => whnf); exact ⟨rfl, rfl, rfl, rfl, rfl⟩
                        · replace h := XSplit.f h e
                          conv => whnf
                          refine ⟨_, Weak.a ?_, h⟩; (conv => whnf); exact ⟨rfl, rfl, rfl, rfl, rfl⟩

theorem c24 {a0 : Int} {a1 : Int} {a2 : Int} {a3 : Int} {a4 : Int} {a5 : Bool} {a6 : Rws} {a7 : Int} {Q : Int × Int × Int × Int × Bool × Rws → Prop} {R : AV → List AB → Prop} (h : (g_model_whole a0 a1 a2 a3 a4 a5 a6 a7).run Q) (k : ∀ r, Q r → R (.tup [.own 0, .int .i64 (r.fst), .agg [.int .i64 (r.snd.fst), .int .i64 (r.snd.snd.fst), .int .i64 (r.snd.snd.snd.fst)]]) [.arr true 23 (r.snd.snd.snd.snd.fst) (r.snd.snd.snd.snd.snd)]) : ACalls Try.prog tab 24 [.agg [.int .i64 (a0), .int .i64 (a1), .int .i64 (a2), .int .i64 (a3), .int .i64 (a4), .sl (a5) 54 (a6), .int .i64 (a7)]] [] R := by
  refine ACalls.out (fun r => .tup [.own 0, .int .i64 (r.fst), .agg [.int .i64 (r.snd.fst), .int .i64 (r.snd.snd.fst), .int .i64 (r.snd.snd.snd.fst)]]) (fun r => [.arr true 23 (r.snd.snd.snd.snd.fst) (r.snd.snd.snd.snd.snd)]) (Q := Q) (ACalls.introX tab_ok mixed_ (fn := Try.f24) (by kernel_rfl) rfl (by kernel_rfl) (by kernel_rfl) (Nat.le_of_ble_eq_true rfl) ?_) (by intros; intro e; cases e) (by intros; intro e; cases e) k
  conv => whnf
  refine ACalls.inn (c18 (W.bindE h) (fun v7 h => ?_)) rfl
  conv => whnf
  refine ASeq.go tab_ok mixed_ ?_
  conv => whnf
  refine XSplit.mk (fun e => ?_) (fun e => ?_)
  · replace h := XSplit.t h e
    conv => whnf
    refine ⟨_, Weak.a ?_, h⟩; (conv => whnf); exact ⟨rfl, rfl, rfl, rfl, rfl⟩
  · replace h := XSplit.f h e
    conv => whnf
    refine ACalls.inn (c35 (W.bindE h) (fun v8 h => ?_)) rfl
    conv => whnf
    refine XSplit.mk (fun e => ?_) (fun e => ?_)
    · replace h := XSplit.t h e
      conv => whnf
      refine ⟨_, Weak.a ?_, h⟩; (conv => whnf); exact ⟨rfl, rfl, rfl, rfl, rfl⟩
    · replace h := XSplit.f h e
      conv => whnf
      refine XSplit.mk (fun e => ?_) (fun e => ?_)
      · replace h := XSplit.t h e
        conv => whnf
        refine ⟨_, Weak.a ?_, h⟩; (conv => whnf); exact ⟨rfl, rfl, rfl, rfl, rfl⟩
      · replace h := XSplit.f h e
        conv => whnf
        refine XSplit.mk (fun e => ?_) (fun e => ?_)
        · replace h := XSplit.t h e
          conv => whnf
          refine ⟨_, Weak.a ?_, h⟩; (conv => whnf); exact ⟨rfl, rfl, rfl, rfl, rfl⟩
        · replace h := XSplit.f h e
          conv => whnf
          refine ASeq.go tab_ok mixed_ ?_
          conv => whnf
          refine ALoop.ofW tab_ok mixed_ (fun v9 => ⟨[(2, .nils), (3, .int .i64 (0)), (4, .ptr 0 0), (7, .own 1), (8, .int .i64 (v9.fst)), (64, .sl (a5) 54 (a6)), (65, .int .i64 ((↑(List.length a6) : Int))), (66, .int .i64 (v9.snd.fst))], [(0, .box 31 [.int .i64 (0), .int .i64 (0), .int .i64 (0)]), (1, .arr true 23 (false) (v9.snd.snd))], 2, [], []⟩) (sx (fun v10 => (.ret, ⟨[(2, .nils), (3, .int .i64 (0)), (4, .ptr 0 0), (7, .own 1), (8, .int .i64 (v10.fst))], [(0, .box 31 [.int .i64 (v10.snd.fst), .int .i64 (v10.snd.snd.fst), .int .i64 (0)]), (1, .arr true 23 (false) (v10.snd.snd.snd))], 2, [], []⟩)) (fun v11 => (.exit 1, ⟨[(2, .nils), (3, .int .i64 (0)), (4, .ptr 0 0), (7, .own 1), (8, .int .i64 (v11.fst))], [(0, .box 31 [.int .i64 (0), .int .i64 (0), .int .i64 (0)]), (1, .arr true 23 (false) (v11.snd))], 2, [], []⟩))) (W.bindE h) (Weak.a ?_) (fun v9 I Q h => ?_) (fun v h => ?_)
          · conv => whnf
            exact ⟨rfl, rfl, rfl, rfl, rfl⟩
          · conv => whnf
            refine ASeq.go tab_ok mixed_ ?_
            conv => whnf
            refine XSplit.mk (fun e => ?_) (fun e => ?_)
            · replace h := XSplit.t h e
              conv => whnf
              refine ASeq.go tab_ok mixed_ ?_
              conv => whnf
              refine XNeed.mk (XNeed.c h) ?_; replace h := XNeed.x h
              conv => whnf
              refine ACalls.inn (c36 (W.bindE h) (fun v12 h => ?_)) rfl
              conv => whnf
              refine ASeq.joinW tab_ok mixed_ (fun v13 => ⟨[(2, .nils), (3, .int .i64 (0)), (4, .ptr 0 0), (7, .own 1), (8, .int .i64 (IntKind.i64.wrap (v9.fst + v12.snd.snd.snd.fst))), (9, .int .i64 (v9.snd.fst)), (10, .ptr 2 0), (11, .ptr 3 0), (12, .int .i64 (v12.snd.snd.snd.fst)), (13, .int .i64 (v13)), (64, .sl (a5) 54 (a6)), (65, .int .i64 ((↑(List.length a6) : Int))), (66, .int .i64 (v9.snd.fst)), (67, .bool (decide (v9.snd.fst < (↑(List.length a6) : Int)))), (68, .int .i64 (v9.snd.fst)), (69, .rel 54 (a6) (v9.snd.fst.toNat) 0), (70, .agg [.int .i64 (ri a6 v9.snd.fst.toNat 0), .int .i64 (ri a6 v9.snd.fst.toNat 1), .int .i64 (ri a6 v9.snd.fst.toNat 2), .int .i64 (ri a6 v9.snd.fst.toNat 3), .int .i64 (ri a6 v9.snd.fst.toNat 4), .int .i64 (ri a6 v9.snd.fst.toNat 5), .int .i64 (ri a6 v9.snd.fst.toNat 6), .int .i64 (ri a6 v9.snd.fst.toNat 7), .int .i64 (ri a6 v9.snd.fst.toNat 8), .int .i64 (ri a6 v9.snd.fst.toNat 9), .int .i64 (ri a6 v9.snd.fst.toNat 10), .int .i64 (ri a6 v9.snd.fst.toNat 11), .sl (rn a6 v9.snd.fst.toNat 12) 76 (rr a6 v9.snd.fst.toNat 12), .sl (rn a6 v9.snd.fst.toNat 13) 21 (rr a6 v9.snd.fst.toNat 13), .int .i64 (ri a6 v9.snd.fst.toNat 14), .int .i64 (ri a6 v9.snd.fst.toNat 15), .int .i64 (ri a6 v9.snd.fst.toNat 16), .int .i64 (ri a6 v9.snd.fst.toNat 17), .int .i64 (ri a6 v9.snd.fst.toNat 18), .int .i64 (ri a6 v9.snd.fst.toNat 19), .int .i64 (ri a6 v9.snd.fst.toNat 20), .int .i64 (ri a6 v9.snd.fst.toNat 21)]), (71, .tup [.agg [.int .i64 (v12.fst), .int .i64 (v12.snd.fst), .int .i64 (v12.snd.snd.fst)], .int .i64 (v12.snd.snd.snd.fst), .int .i64 (v12.snd.snd.snd.snd)]), (72, .agg [.int .i64 (ri a6 v9.snd.fst.toNat 0), .int .i64 (ri a6 v9.snd.fst.toNat 1), .int .i64 (ri a6 v9.snd.fst.toNat 2), .int .i64 (ri a6 v9.snd.fst.toNat 3), .int .i64 (ri a6 v9.snd.fst.toNat 4), .int .i64 (ri a6 v9.snd.fst.toNat 5), .int .i64 (ri a6 v9.snd.fst.toNat 6), .int .i64 (ri a6 v9.snd.fst.toNat 7), .int .i64 (ri a6 v9.snd.fst.toNat 8), .int .i64 (ri a6 v9.snd.fst.toNat 9), .int .i64 (ri a6 v9.snd.fst.toNat 10), .int .i64 (ri a6 v9.snd.fst.toNat 11), .sl (rn a6 v9.snd.fst.toNat 12) 76 (rr a6 v9.snd.fst.toNat 12), .sl (rn a6 v9.snd.fst.toNat 13) 21 (rr a6 v9.snd.fst.toNat 13), .int .i64 (ri a6 v9.snd.fst.toNat 14), .int .i64 (ri a6 v9.snd.fst.toNat 15), .int .i64 (ri a6 v9.snd.fst.toNat 16), .int .i64 (ri a6 v9.snd.fst.toNat 17), .int .i64 (ri a6 v9.snd.fst.toNat 18), .int .i64 (ri a6 v9.snd.fst.toNat 19), .int .i64 (ri a6 v9.snd.fst.toNat 20), .int .i64 (ri a6 v9.snd.fst.toNat 21)]), (73, .own 1), (74, .tup [.agg [.int .i64 (v12.fst), .int .i64 (v12.snd.fst), .int .i64 (v12.snd.snd.fst)], .int .i64 (v12.snd.snd.snd.fst), .int .i64 (v12.snd.snd.snd.snd)]), (75, .agg [.int .i64 (v12.fst), .int .i64 (v12.snd.fst), .int .i64 (v12.snd.snd.fst)]), (76, .int .i64 (v12.snd.snd.snd.fst)), (77, .int .i64 (v12.snd.snd.snd.snd)), (78, .int .i64 (v9.fst)), (79, .int .i64 (v12.snd.snd.snd.fst)), (80, .int .i64 (IntKind.i64.wrap (v9.fst + v12.snd.snd.snd.fst))), (81, .int .i64 (v12.snd.snd.snd.snd)), (82, .bool (v12.snd.snd.snd.snd == 0)), (83, .bool (v12.snd.snd.snd.snd == 0)), (86, .bool (v12.snd.snd.snd.snd == 0 && decide (131072 < IntKind.i64.wrap (v9.fst + v12.snd.snd.snd.fst))))], [(0, .box 31 [.int .i64 (0), .int .i64 (0), .int .i64 (0)]), (1, .arr true 23 (false) (v9.snd.snd)), (2, .box 54 [.int .i64 (ri a6 v9.snd.fst.toNat 0), .int .i64 (ri a6 v9.snd.fst.toNat 1), .int .i64 (ri a6 v9.snd.fst.toNat 2), .int .i64 (ri a6 v9.snd.fst.toNat 3), .int .i64 (ri a6 v9.snd.fst.toNat 4), .int .i64 (ri a6 v9.snd.fst.toNat 5), .int .i64 (ri a6 v9.snd.fst.toNat 6), .int .i64 (ri a6 v9.snd.fst.toNat 7), .int .i64 (ri a6 v9.snd.fst.toNat 8), .int .i64 (ri a6 v9.snd.fst.toNat 9), .int .i64 (ri a6 v9.snd.fst.toNat 10), .int .i64 (ri a6 v9.snd.fst.toNat 11), .sl (rn a6 v9.snd.fst.toNat 12) 76 (rr a6 v9.snd.fst.toNat 12), .sl (rn a6 v9.snd.fst.toNat 13) 21 (rr a6 v9.snd.fst.toNat 13), .int .i64 (ri a6 v9.snd.fst.toNat 14), .int .i64 (ri a6 v9.snd.fst.toNat 15), .int .i64 (ri a6 v9.snd.fst.toNat 16), .int .i64 (ri a6 v9.snd.fst.toNat 17), .int .i64 (ri a6 v9.snd.fst.toNat 18), .int .i64 (ri a6 v9.snd.fst.toNat 19), .int .i64 (ri a6 v9.snd.fst.toNat 20), .int .i64 (ri a6 v9.snd.fst.toNat 21)]), (3, .box 23 [.int .i64 (v12.fst), .int .i64 (v12.snd.fst), .int .i64 (v12.snd.snd.fst)])], 4, [], []⟩) h (fun Q h => ?_) (fun v13 h => ?_)
              · conv => whnf
                refine XSplit.mk (fun e => ?_) (fun e => ?_)
                · replace h := XSplit.t h e
                  conv => whnf
                  refine ⟨_, Weak.a ?_, h⟩; (conv => whnf); exact ⟨rfl, rfl, rfl, rfl, rfl⟩
                · replace h := XSplit.f h e
                  conv => whnf
                  refine ⟨_, Weak.a ?_, h⟩; (conv => whnf); exact ⟨rfl, rfl, rfl, rfl, rfl⟩
              · conv => whnf
                refine ASeq.go tab_ok mixed_ ?_
                conv => whnf
                refine XSplit.mk (fun e => ?_) (fun e => ?_)
                · replace h := XSplit.t h e
                  conv => whnf
                  refine ⟨_, ?_, Weak.a ?_, h⟩; exact rfl; (conv => whnf); exact ⟨rfl, rfl, rfl, rfl, rfl⟩
                · replace h := XSplit.f h e
                  conv => whnf
                  refine XNeed.mk (XNeed.c h) ?_; replace h := XNeed.x h
                  conv => whnf
                  refine ⟨_, Weak.a ?_, h⟩; (conv => whnf); exact ⟨rfl, rfl, rfl, rfl, rfl⟩
            · replace h := XSplit.f h e
              conv => whnf
              refine ⟨_, ?_, Weak.a ?_, h⟩; exact rfl; (conv => whnf); exact ⟨rfl, rfl, rfl, rfl, rfl⟩
          · cases v
            · rename_i v10
              conv => whnf
              refine ⟨_, Weak.a ?_, h⟩; (conv => whnf); exact ⟨rfl, rfl, rfl, rfl, rfl⟩
            · rename_i v11
              conv => whnf
              refine ⟨_, Weak.a ?_, h⟩; (conv => whnf); exact ⟨rfl, rfl, rfl, rfl, rfl⟩

theorem c9 {a0 : Int} {a1 : Int} {a2 : Int} {a3 : Int} {a4 : Int} {a5 : Bool} {a6 : Rws} {a7 : Int} {Q : Int × Int × Int × Bool × Rws → Prop} {R : AV → List AB → Prop} (h : (g_model_Shapes a0 a1 a2 a3 a4 a5 a6 a7).run Q) (k : ∀ r, Q r → R (.tup [.own 0, .agg [.int .i64 (r.fst), .int .i64 (r.snd.fst), .int .i64 (r.snd.snd.fst)]]) [.arr true 23 (r.snd.snd.snd.fst) (r.snd.snd.snd.snd)]) : ACalls Try.prog tab 9 [.agg [.int .i64 (a0), .int .i64 (a1), .int .i64 (a2), .int .i64 (a3), .int .i64 (a4), .sl (a5) 54 (a6), .int .i64 (a7)]] [] R := by
  refine ACalls.out (fun r => .tup [.own 0, .agg [.int .i64 (r.fst), .int .i64 (r.snd.fst), .int .i64 (r.snd.snd.fst)]]) (fun r => [.arr true 23 (r.snd.snd.snd.fst) (r.snd.snd.snd.snd)]) (Q := Q) (ACalls.introX tab_ok mixed_ (fn := Try.f9) (by kernel_rfl) rfl (by kernel_rfl) (by kernel_rfl) (Nat.le_of_ble_eq_true rfl) ?_) (by intros; intro e; cases e) (by intros; intro e; cases e) k
  conv => whnf
  refine ACalls.inn (c24 (W.bindE h) (fun v1 h => ?_)) rfl
  conv => whnf
  refine XDraw.d [0, 1, 2, 3] (by decide +kernel) ?_
  conv => whnf
  refine ⟨_, Weak.a ?_, h⟩; (conv => whnf); exact ⟨rfl, rfl, rfl, rfl, rfl⟩

theorem c10 {a0 : Int} {a1 : Int} {a2 : Int} {a3 : Int} {a4 : Int} {a5 : Bool} {a6 : Rws} {a7 : Int} {Q : Int × Int × Int × Int → Prop} {R : AV → List AB → Prop} (h : (g_model_Work a0 a1 a2 a3 a4 a5 a6 a7).run Q) (k : ∀ r, Q r → R (.tup [.int .i64 (r.fst), .agg [.int .i64 (r.snd.fst), .int .i64 (r.snd.snd.fst), .int .i64 (r.snd.snd.snd)]]) []) : ACalls Try.prog tab 10 [.agg [.int .i64 (a0), .int .i64 (a1), .int .i64 (a2), .int .i64 (a3), .int .i64 (a4), .sl (a5) 54 (a6), .int .i64 (a7)]] [] R := by
  refine ACalls.out (fun r => .tup [.int .i64 (r.fst), .agg [.int .i64 (r.snd.fst), .int .i64 (r.snd.snd.fst), .int .i64 (r.snd.snd.snd)]]) (fun r => []) (Q := Q) (ACalls.introX tab_ok mixed_ (fn := Try.f10) (by kernel_rfl) rfl (by kernel_rfl) (by kernel_rfl) (Nat.le_of_ble_eq_true rfl) ?_) (by intros; intro e; cases e) (by intros; intro e; cases e) k
  conv => whnf
  refine ACalls.inn (c24 (W.bindE h) (fun v1 h => ?_)) rfl
  conv => whnf
  refine XDraw.d [0, 1, 2, 3] (by decide +kernel) ?_
  conv => whnf
  refine ⟨_, Weak.a ?_, h⟩; (conv => whnf); exact ⟨rfl, rfl, rfl, rfl, rfl⟩

theorem c25 {Q : Int × Int × Int × Int × Int × Int × Bool × Rws → Prop} {R : AV → List AB → Prop} (h : (g_law08_plain).run Q) (k : ∀ r, Q r → R (.agg [.int .i64 (r.fst), .int .i64 (r.snd.fst), .int .i64 (r.snd.snd.fst), .int .i64 (r.snd.snd.snd.fst), .int .i64 (r.snd.snd.snd.snd.fst), .own 0, .int .i64 (r.snd.snd.snd.snd.snd.fst)]) [.arr true 54 (r.snd.snd.snd.snd.snd.snd.fst) (r.snd.snd.snd.snd.snd.snd.snd)]) : ACalls Try.prog tab 25 [] [] R := by
  refine ACalls.out (fun r => .agg [.int .i64 (r.fst), .int .i64 (r.snd.fst), .int .i64 (r.snd.snd.fst), .int .i64 (r.snd.snd.snd.fst), .int .i64 (r.snd.snd.snd.snd.fst), .own 0, .int .i64 (r.snd.snd.snd.snd.snd.fst)]) (fun r => [.arr true 54 (r.snd.snd.snd.snd.snd.snd.fst) (r.snd.snd.snd.snd.snd.snd.snd)]) (Q := Q) (ACalls.introX tab_ok mixed_ (fn := Try.f25) (by kernel_rfl) rfl (by kernel_rfl) (by kernel_rfl) (Nat.le_of_ble_eq_true rfl) ?_) (by intros; intro e; cases e) (by intros; intro e; cases e) k
  conv => whnf
  refine ⟨_, Weak.a ?_, h⟩; (conv => whnf); exact ⟨rfl, rfl, rfl, rfl, rfl⟩

theorem c12 {a0 : Int} {a1 : Int} {a2 : Int} {a3 : Int} {a4 : Int} {a5 : Bool} {a6 : Rws} {a7 : Int} {Q : Int × Int × Int → Prop} {R : AV → List AB → Prop} (h : (g_model_Check a0 a1 a2 a3 a4 a5 a6 a7).run Q) (k : ∀ r, Q r → R (.agg [.int .i64 (r.fst), .int .i64 (r.snd.fst), .int .i64 (r.snd.snd)]) []) : ACalls Try.prog tab 12 [.agg [.int .i64 (a0), .int .i64 (a1), .int .i64 (a2), .int .i64 (a3), .int .i64 (a4), .sl (a5) 54 (a6), .int .i64 (a7)]] [] R := by
  refine ACalls.out (fun r => .agg [.int .i64 (r.fst), .int .i64 (r.snd.fst), .int .i64 (r.snd.snd)]) (fun r => []) (Q := Q) (ACalls.introX tab_ok mixed_ (fn := Try.f12) (by kernel_rfl) rfl (by kernel_rfl) (by kernel_rfl) (Nat.le_of_ble_eq_true rfl) ?_) (by intros; intro e; cases e) (by intros; intro e; cases e) k
  conv => whnf
  refine ACalls.inn (c24 (W.bindE h) (fun v1 h => ?_)) rfl
  conv => whnf
  refine ⟨_, Weak.a ?_, h⟩; (conv => whnf); exact ⟨rfl, rfl, rfl, rfl, rfl⟩
end Go.Proofs.Ytaghkmaelbgljaa.V08

set_option linter.unusedVariables false
set_option maxRecDepth 100000
set_option maxHeartbeats 0
namespace Go.Proofs.Ytaghkmaelbgljaa.V08
open Go.Proofs Go.Proofs.Ytaghkmaelbgljaa.VX
theorem c15 {a0 : Int} {Q : Bool → Prop} {R : AV → List AB → Prop} (h : (g_model_Reduces a0).run Q) (k : ∀ r, Q r → R (.bool (r)) []) : ACalls Try.prog tab 15 [.int .i64 (a0)] [] R := by
  refine ACalls.out (fun r => .bool (r)) (fun r => []) (Q := Q) (ACalls.introX tab_ok mixed_ (fn := Try.f15) (by kernel_rfl) rfl (by kernel_rfl) (by kernel_rfl) (Nat.le_of_ble_eq_true rfl) ?_) (by intros; intro e; cases e) (by intros; intro e; cases e) k
  conv => whnf
  refine ASeq.go tab_ok mixed_ ?_
  conv => whnf
  refine ASeq.joinW tab_ok mixed_ (fun v1 => ⟨[(2, .kb false), (4, .bool (v1))], [], 0, [], []⟩) h (fun Q h => ?_) (fun v1 h => ?_)
  · conv => whnf
    refine XSplit.mk (fun e => ?_) (fun e => ?_)
    · replace h := XSplit.t h e
      conv => whnf
      refine ⟨_, Weak.a ?_, h⟩; (conv => whnf); exact ⟨rfl, rfl, rfl, rfl, rfl⟩
    · replace h := XSplit.f h e
      conv => whnf
      refine XSplit.mk (fun e => ?_) (fun e => ?_)
      · replace h := XSplit.t h e
        conv => whnf
        refine ⟨_, Weak.a ?_, h⟩; (conv => whnf); exact ⟨rfl, rfl, rfl, rfl, rfl⟩
      · replace h := XSplit.f h e
        conv => whnf
        refine XSplit.mk (fun e => ?_) (fun e => ?_)
        · replace h := XSplit.t h e
          conv => whnf
          refine ⟨_, Weak.a ?_, h⟩; (conv => whnf); exact ⟨rfl, rfl, rfl, rfl, rfl⟩
        · replace h := XSplit.f h e
          conv => whnf
          refine ⟨_, Weak.a ?_, h⟩; (conv => whnf); exact ⟨rfl, rfl, rfl, rfl, rfl⟩
  · conv => whnf
    refine XSplit.mk (fun e => ?_) (fun e => ?_)
    · replace h := XSplit.t h e
      conv => whnf
      refine ⟨_, Weak.a ?_, h⟩; (conv => whnf); exact ⟨rfl, rfl, rfl, rfl, rfl⟩
    · replace h := XSplit.f h e
      conv => whnf
      refine ⟨_, Weak.a ?_, h⟩; (conv => whnf); exact ⟨rfl, rfl, rfl, rfl, rfl⟩

theorem c11 {Q : Bool → Prop} {R : AV → List AB → Prop} (h : (g_law08_fixed).run Q) (k : ∀ r, Q r → R (.bool (r)) []) : ACalls Try.prog tab 11 [] [] R := by
  refine ACalls.out (fun r => .bool (r)) (fun r => []) (Q := Q) (ACalls.introX tab_ok mixed_ (fn := Try.f11) (by kernel_rfl) rfl (by kernel_rfl) (by kernel_rfl) (Nat.le_of_ble_eq_true rfl) ?_) (by intros; intro e; cases e) (by intros; intro e; cases e) k
  conv => whnf
  refine ACalls.inn (c25 (W.bindE h) (fun v7 h => ?_)) rfl
  conv => whnf
  refine ACalls.inn (c10 (W.bindE h) (fun v8 h => ?_)) rfl
  conv => whnf
  refine ACalls.inn (c9 (W.bindE h) (fun v9 h => ?_)) rfl
  conv => whnf
  refine ASeq.go tab_ok mixed_ ?_
  conv => whnf
  refine XDraw.q [0, 1, 2, 3, 4, 5, 6, 7, 8, 9, 10, 11, 12, 13, 14, 15, 16, 17, 18, 19, 20, 21, 22, 23, 24, 25, 26, 27, 28, 29, 30, 31] (by decide +kernel) ?_
  conv => whnf
  refine XNeed.mk (XNeed.c h) ?_; replace h := XNeed.x h
  conv => whnf
  refine XNeed.mk (XNeed.c h) ?_; replace h := XNeed.x h
  conv => whnf
  refine XSplit.mk (fun e => ?_) (fun e => ?_)
  · replace h := XSplit.t h e
    conv => whnf
    refine ⟨_, Weak.a ?_, h⟩; (conv => whnf); exact ⟨rfl, rfl, rfl, rfl, rfl⟩
  · replace h := XSplit.f h e
    conv => whnf
    refine XNeed.mk (XNeed.c h) ?_; replace h := XNeed.x h
    conv => whnf
    refine ASeq.joinW tab_ok mixed_ (fun v10 => ⟨[(0, .bool (v10))], [], 0, [], []⟩) h (fun Q h => ?_) (fun v10 h => ?_)
    · conv => whnf
      refine ACalls.inn (c12 (W.bindE h) (fun v11 h => ?_)) rfl
      conv => whnf
      refine XSplit.mk (fun e => ?_) (fun e => ?_)
      · replace h := XSplit.t h e
        conv => whnf
        refine ACalls.inn (c15 (W.bindE h) (fun v12 h => ?_)) rfl
        conv => whnf
        refine XSplit.mk (fun e => ?_) (fun e => ?_)
        · replace h := XSplit.t h e
          conv => whnf
          refine ACalls.inn (c15 (W.bindE h) (fun v13 h => ?_)) rfl
          conv => whnf
          refine ⟨_, Weak.a ?_, h⟩; (conv => whnf); exact ⟨rfl, rfl, rfl, rfl, rfl⟩
        · replace h := XSplit.f h e
          conv => whnf
          refine ⟨_, Weak.a ?_, h⟩; (conv => whnf); exact ⟨rfl, rfl, rfl, rfl, rfl⟩
      · replace h := XSplit.f h e
        conv => whnf
        refine ⟨_, Weak.a ?_, h⟩; (conv => whnf); exact ⟨rfl, rfl, rfl, rfl, rfl⟩
    · conv => whnf
      refine ⟨_, Weak.a ?_, h⟩; (conv => whnf); exact ⟨rfl, rfl, rfl, rfl, rfl⟩

theorem c13 {a0 : Bool} {a1 : Rws} {a2 : Bool} {a3 : Rws} {Q : Bool → Prop} {R : AV → List AB → Prop} (h : (g_law08_same a0 a1 a2 a3).run Q) (k : ∀ r, Q r → R (.bool (r)) []) : ACalls Try.prog tab 13 [.sl (a0) 23 (a1), .sl (a2) 23 (a3)] [] R := by
  refine ACalls.out (fun r => .bool (r)) (fun r => []) (Q := Q) (ACalls.introX tab_ok mixed_ (fn := Try.f13) (by kernel_rfl) rfl (by kernel_rfl) (by kernel_rfl) (Nat.le_of_ble_eq_true rfl) ?_) (by intros; intro e; cases e) (by intros; intro e; cases e) k
  conv => whnf
  refine ASeq.go tab_ok mixed_ ?_
  conv => whnf
  refine XSplit.mk (fun e => ?_) (fun e => ?_)
  · replace h := XSplit.t h e
    conv => whnf
    refine ⟨_, Weak.a ?_, h⟩; (conv => whnf); exact ⟨rfl, rfl, rfl, rfl, rfl⟩
  · replace h := XSplit.f h e
    conv => whnf
    refine ASeq.go tab_ok mixed_ ?_
    conv => whnf
    refine ALoop.ofW tab_ok mixed_ (fun v3 => ⟨[(0, .sl (a0) 23 (a1)), (1, .sl (a2) 23 (a3)), (4, .kb false), (12, .int .i64 ((↑(List.length a1) : Int))), (13, .int .i64 (v3))], [], 0, [], []⟩) (sx (fun v4 => (.ret, ⟨[(4, .kb false)], [], 0, [], []⟩)) (fun v5 => (.exit 0, ⟨[(4, .kb false)], [], 0, [], []⟩))) (W.bindE h) (Weak.a ?_) (fun v3 I Q h => ?_) (fun v h => ?_)
    · conv => whnf
      exact ⟨rfl, rfl, rfl, rfl, rfl⟩
    · conv => whnf
      refine ASeq.go tab_ok mixed_ ?_
      conv => whnf
      refine XSplit.mk (fun e => ?_) (fun e => ?_)
      · replace h := XSplit.t h e
        conv => whnf
        refine ASeq.go tab_ok mixed_ ?_
        conv => whnf
        refine XDraw.q [0, 1, 2, 3, 4, 5, 6, 7, 8] (by decide +kernel) ?_
        conv => whnf
        refine XNeed.mk (XNeed.c h) ?_; replace h := XNeed.x h
        conv => whnf
        refine XNeed.mk (XNeed.c h) ?_; replace h := XNeed.x h
        conv => whnf
        refine XSplit.mk (fun e => ?_) (fun e => ?_)
        · replace h := XSplit.t h e
          conv => whnf
          refine ⟨_, ?_, Weak.a ?_, h⟩; exact rfl; (conv => whnf); exact ⟨rfl, rfl, rfl, rfl, rfl⟩
        · replace h := XSplit.f h e
          conv => whnf
          refine ⟨_, Weak.a ?_, h⟩; (conv => whnf); exact ⟨rfl, rfl, rfl, rfl, rfl⟩
      · replace h := XSplit.f h e
        conv => whnf
        refine ⟨_, ?_, Weak.a ?_, h⟩; exact rfl; (conv => whnf); exact ⟨rfl, rfl, rfl, rfl, rfl⟩
    · cases v
      · rename_i v4
        conv => whnf
        refine ⟨_, Weak.a ?_, h⟩; (conv => whnf); exact ⟨rfl, rfl, rfl, rfl, rfl⟩
      · rename_i v5
        conv => whnf
        refine ⟨_, Weak.a ?_, h⟩; (conv => whnf); exact ⟨rfl, rfl, rfl, rfl, rfl⟩

theorem c26 {a0 : Int} {a1 : Int} {a2 : Int} {a3 : Int} {a4 : Int} {a5 : Int} {a6 : Int} {a7 : Int} {a8 : Int} {a9 : Int} {a10 : Int} {a11 : Int} {a12 : Bool} {a13 : Rws} {a14 : Bool} {a15 : Rws} {a16 : Int} {a17 : Int} {a18 : Int} {a19 : Int} {a20 : Int} {a21 : Int} {a22 : Int} {a23 : Int} {a24 : Int} {a25 : Int} {a26 : Int} {a27 : Int} {a28 : Int} {a29 : Int} {a30 : Int} {a31 : Int} {a32 : Int} {a33 : Int} {a34 : Int} {a35 : Int} {a36 : Bool} {a37 : Rws} {a38 : Bool} {a39 : Rws} {a40 : Int} {a41 : Int} {a42 : Int} {a43 : Int} {a44 : Int} {a45 : Int} {a46 : Int} {a47 : Int} {Q : Bool → Prop} {R : AV → List AB → Prop} (h : (g_ref08_SameOp a0 a1 a2 a3 a4 a5 a6 a7 a8 a9 a10 a11 a12 a13 a14 a15 a16 a17 a18 a19 a20 a21 a22 a23 a24 a25 a26 a27 a28 a29 a30 a31 a32 a33 a34 a35 a36 a37 a38 a39 a40 a41 a42 a43 a44 a45 a46 a47).run Q) (k : ∀ r, Q r → R (.bool (r)) []) : ACalls Try.prog tab 26 [.agg [.int .i64 (a0), .int .i64 (a1), .int .i64 (a2), .int .i64 (a3), .int .i64 (a4), .int .i64 (a5), .int .i64 (a6), .int .i64 (a7), .int .i64 (a8), .int .i64 (a9), .int .i64 (a10), .int .i64 (a11), .sl (a12) 76 (a13), .sl (a14) 21 (a15), .int .i64 (a16), .int .i64 (a17), .int .i64 (a18), .int .i64 (a19), .int .i64 (a20), .int .i64 (a21), .int .i64 (a22), .int .i64 (a23)], .agg [.int .i64 (a24), .int .i64 (a25), .int .i64 (a26), .int .i64 (a27), .int .i64 (a28), .int .i64 (a29), .int .i64 (a30), .int .i64 (a31), .int .i64 (a32), .int .i64 (a33), .int .i64 (a34), .int .i64 (a35), .sl (a36) 76 (a37), .sl (a38) 21 (a39), .int .i64 (a40), .int .i64 (a41), .int .i64 (a42), .int .i64 (a43), .int .i64 (a44), .int .i64 (a45), .int .i64 (a46), .int .i64 (a47)]] [] R := by
  refine ACalls.out (fun r => .bool (r)) (fun r => []) (Q := Q) (ACalls.introX tab_ok mixed_ (fn := Try.f26) (by kernel_rfl) rfl (by kernel_rfl) (by kernel_rfl) (Nat.le_of_ble_eq_true rfl) ?_) (by intros; intro e; cases e) (by intros; intro e; cases e) k
  conv => whnf
  refine ASeq.go tab_ok mixed_ ?_
  conv => whnf
  refine XSplit.mk (fun e => ?_) (fun e => ?_)
  · replace h := XSplit.t h e
    conv => whnf
    refine ⟨_, Weak.a ?_, h⟩; (conv => whnf); exact ⟨rfl, rfl, rfl, rfl, rfl⟩
  · replace h := XSplit.f h e
    conv => whnf
    refine ASeq.go tab_ok mixed_ ?_
    conv => whnf
    refine XSplit.mk (fun e => ?_) (fun e => ?_)
    · replace h := XSplit.t h e
      conv => whnf
      refine ⟨_, Weak.a ?_, h⟩; (conv => whnf); exact ⟨rfl, rfl, rfl, rfl, rfl⟩
    · replace h := XSplit.f h e
      conv => whnf
      refine ASeq.go tab_ok mixed_ ?_
      conv => whnf
      refine ALoop.ofW tab_ok mixed_ (fun v6 => ⟨[(2, .ptr 0 0), (3, .ptr 1 0), (4, .kb false), (100, .int .i64 ((↑(List.length a13) : Int))), (101, .int .i64 (v6))], [(0, .box 54 [.int .i64 (a0), .int .i64 (a1), .int .i64 (a2), .int .i64 (a3), .int .i64 (a4), .int .i64 (a5), .int .i64 (a6), .int .i64 (a7), .int .i64 (a8), .int .i64 (a9), .int .i64 (a10), .int .i64 (a11), .sl (a12) 76 (a13), .sl (a14) 21 (a15), .int .i64 (a16), .int .i64 (a17), .int .i64 (a18), .int .i64 (a19), .int .i64 (a20), .int .i64 (a21), .int .i64 (a22), .int .i64 (a23)]), (1, .box 54 [.int .i64 (a24), .int .i64 (a25), .int .i64 (a26), .int .i64 (a27), .int .i64 (a28), .int .i64 (a29), .int .i64 (a30), .int .i64 (a31), .int .i64 (a32), .int .i64 (a33), .int .i64 (a34), .int .i64 (a35), .sl (a36) 76 (a37), .sl (a38) 21 (a39), .int .i64 (a40), .int .i64 (a41), .int .i64 (a42), .int .i64 (a43), .int .i64 (a44), .int .i64 (a45), .int .i64 (a46), .int .i64 (a47)])], 2, [], []⟩) (sx (fun v7 => (.ret, ⟨[(2, .ptr 0 0), (3, .ptr 1 0), (4, .kb false)], [(0, .box 54 [.int .i64 (a0), .int .i64 (a1), .int .i64 (a2), .int .i64 (a3), .int .i64 (a4), .int .i64 (a5), .int .i64 (a6), .int .i64 (a7), .int .i64 (a8), .int .i64 (a9), .int .i64 (a10), .int .i64 (a11), .sl (a12) 76 (a13), .sl (a14) 21 (a15), .int .i64 (a16), .int .i64 (a17), .int .i64 (a18), .int .i64 (a19), .int .i64 (a20), .int .i64 (a21), .int .i64 (a22), .int .i64 (a23)]), (1, .box 54 [.int .i64 (a24), .int .i64 (a25), .int .i64 (a26), .int .i64 (a27), .int .i64 (a28), .int .i64 (a29), .int .i64 (a30), .int .i64 (a31), .int .i64 (a32), .int .i64 (a33), .int .i64 (a34), .int .i64 (a35), .sl (a36) 76 (a37), .sl (a38) 21 (a39), .int .i64 (a40), .int .i64 (a41), .int .i64 (a42), .int .i64 (a43), .int .i64 (a44), .int .i64 (a45), .int .i64 (a46), .int .i64 (a47)])], 2, [], []⟩)) (fun v8 => (.exit 0, ⟨[(2, .ptr 0 0), (3, .ptr 1 0), (4, .kb false)], [(0, .box 54 [.int .i64 (a0), .int .i64 (a1), .int .i64 (a2), .int .i64 (a3), .int .i64 (a4), .int .i64 (a5), .int .i64 (a6), .int .i64 (a7), .int .i64 (a8), .int .i64 (a9), .int .i64 (a10), .int .i64 (a11), .sl (a12) 76 (a13), .sl (a14) 21 (a15), .int .i64 (a16), .int .i64 (a17), .int .i64 (a18), .int .i64 (a19), .int .i64 (a20), .int .i64 (a21), .int .i64 (a22), .int .i64 (a23)]), (1, .box 54 [.int .i64 (a24), .int .i64 (a25), .int .i64 (a26), .int .i64 (a27), .int .i64 (a28), .int .i64 (a29), .int .i64 (a30), .int .i64 (a31), .int .i64 (a32), .int .i64 (a33), .int .i64 (a34), .int .i64 (a35), .sl (a36) 76 (a37), .sl (a38) 21 (a39), .int .i64 (a40), .int .i64 (a41), .int .i64 (a42), .int .i64 (a43), .int .i64 (a44), .int .i64 (a45), .int .i64 (a46), .int .i64 (a47)])], 2, [], []⟩))) (W.bindE h) (Weak.a ?_) (fun v6 I Q h => ?_) (fun v h => ?_)
      · conv => whnf
        exact ⟨rfl, rfl, rfl, rfl, rfl⟩
      · conv => whnf
        refine ASeq.go tab_ok mixed_ ?_
        conv => whnf
        refine XSplit.mk (fun e => ?_) (fun e => ?_)
        · replace h := XSplit.t h e
          conv => whnf
          refine ASeq.go tab_ok mixed_ ?_
          conv => whnf
          refine XDraw.q [0, 1, 2, 3, 4, 5, 6, 7, 8, 9, 10] (by decide +kernel) ?_
          conv => whnf
          refine XNeed.mk (XNeed.c h) ?_; replace h := XNeed.x h
          conv => whnf
          refine XNeed.mk (XNeed.c h) ?_; replace h := XNeed.x h
          conv => whnf
          refine XSplit.mk (fun e => ?_) (fun e => ?_)
          · replace h := XSplit.t h e
            conv => whnf
            refine ⟨_, ?_, Weak.a ?_, h⟩; exact rfl; (conv => whnf); exact ⟨rfl, rfl, rfl, rfl, rfl⟩
          · replace h := XSplit.f h e
            conv => whnf
            refine ⟨_, Weak.a ?_, h⟩; (conv => whnf); exact ⟨rfl, rfl, rfl, rfl, rfl⟩
        · replace h := XSplit.f h e
          conv => whnf
          refine ⟨_, ?_, Weak.a ?_, h⟩; exact rfl; (conv => whnf); exact ⟨rfl, rfl, rfl, rfl, rfl⟩
      · cases v
        · rename_i v7
          conv => whnf
          refine ⟨_, Weak.a ?_, h⟩; (conv => whnf); exact ⟨rfl, rfl, rfl, rfl, rfl⟩
        · rename_i v8
          conv => whnf
          refine ASeq.go tab_ok mixed_ ?_
          conv => whnf
          refine ALoop.ofW tab_ok mixed_ (fun v9 => ⟨[(2, .ptr 0 0), (3, .ptr 1 0), (4, .kb false), (118, .int .i64 ((↑(List.length a15) : Int))), (119, .int .i64 (v9))], [(0, .box 54 [.int .i64 (a0), .int .i64 (a1), .int .i64 (a2), .int .i64 (a3), .int .i64 (a4), .int .i64 (a5), .int .i64 (a6), .int .i64 (a7), .int .i64 (a8), .int .i64 (a9), .int .i64 (a10), .int .i64 (a11), .sl (a12) 76 (a13), .sl (a14) 21 (a15), .int .i64 (a16), .int .i64 (a17), .int .i64 (a18), .int .i64 (a19), .int .i64 (a20), .int .i64 (a21), .int .i64 (a22), .int .i64 (a23)]), (1, .box 54 [.int .i64 (a24), .int .i64 (a25), .int .i64 (a26), .int .i64 (a27), .int .i64 (a28), .int .i64 (a29), .int .i64 (a30), .int .i64 (a31), .int .i64 (a32), .int .i64 (a33), .int .i64 (a34), .int .i64 (a35), .sl (a36) 76 (a37), .sl (a38) 21 (a39), .int .i64 (a40), .int .i64 (a41), .int .i64 (a42), .int .i64 (a43), .int .i64 (a44), .int .i64 (a45), .int .i64 (a46), .int .i64 (a47)])], 2, [], []⟩) (sx (fun v10 => (.ret, ⟨[(4, .kb false)], [], 0, [], []⟩)) (fun v11 => (.exit 2, ⟨[(4, .kb false)], [], 0, [], []⟩))) (W.bindE h) (Weak.a ?_) (fun v9 I Q h => ?_) (fun v h => ?_)
          · conv => whnf
            exact ⟨rfl, rfl, rfl, rfl, rfl⟩
          · conv => whnf
            refine ASeq.go tab_ok mixed_ ?_
            conv => whnf
            refine XSplit.mk (fun e => ?_) (fun e => ?_)
            · replace h := XSplit.t h e
              conv => whnf
              refine ASeq.go tab_ok mixed_ ?_
              conv => whnf
              refine XDraw.q [0, 1, 2, 3, 4, 5, 6, 7, 8, 9, 10] (by decide +kernel) ?_
              conv => whnf
              refine XNeed.mk (XNeed.c h) ?_; replace h := XNeed.x h
              conv => whnf
              refine XNeed.mk (XNeed.c h) ?_; replace h := XNeed.x h
              conv => whnf
              refine XSplit.mk (fun e => ?_) (fun e => ?_)
              · replace h := XSplit.t h e
                conv => whnf
                refine ⟨_, ?_, Weak.a ?_, h⟩; exact rfl; (conv => whnf); exact ⟨rfl, rfl, rfl, rfl, rfl⟩
              · replace h := XSplit.f h e
                conv => whnf
                refine ⟨_, Weak.a ?_, h⟩; (conv => whnf); exact ⟨rfl, rfl, rfl, rfl, rfl⟩
            · replace h := XSplit.f h e
              conv => whnf
              refine ⟨_, ?_, Weak.a ?_, h⟩; exact rfl; (conv => whnf); exact ⟨rfl, rfl, rfl, rfl, rfl⟩
          · cases v
            · rename_i v10
              conv => whnf
              refine ⟨_, Weak.a ?_, h⟩; (conv => whnf); exact ⟨rfl, rfl, rfl, rfl, rfl⟩
            · rename_i v11
              conv => whnf
              refine ⟨_, Weak.a ?_, h⟩; (conv => whnf); exact ⟨rfl, rfl, rfl, rfl, rfl⟩

theorem c14 {a0 : Int} {a1 : Int} {a2 : Int} {a3 : Int} {a4 : Int} {a5 : Bool} {a6 : Rws} {a7 : Int} {a8 : Int} {a9 : Int} {a10 : Int} {a11 : Int} {a12 : Int} {a13 : Bool} {a14 : Rws} {a15 : Int} {Q : Bool → Prop} {R : AV → List AB → Prop} (h : (g_ref08_Same a0 a1 a2 a3 a4 a5 a6 a7 a8 a9 a10 a11 a12 a13 a14 a15).run Q) (k : ∀ r, Q r → R (.bool (r)) []) : ACalls Try.prog tab 14 [.agg [.int .i64 (a0), .int .i64 (a1), .int .i64 (a2), .int .i64 (a3), .int .i64 (a4), .sl (a5) 54 (a6), .int .i64 (a7)], .agg [.int .i64 (a8), .int .i64 (a9), .int .i64 (a10), .int .i64 (a11), .int .i64 (a12), .sl (a13) 54 (a14), .int .i64 (a15)]] [] R := by
  refine ACalls.out (fun r => .bool (r)) (fun r => []) (Q := Q) (ACalls.introX tab_ok mixed_ (fn := Try.f14) (by kernel_rfl) rfl (by kernel_rfl) (by kernel_rfl) (Nat.le_of_ble_eq_true rfl) ?_) (by intros; intro e; cases e) (by intros; intro e; cases e) k
  conv => whnf
  refine ASeq.go tab_ok mixed_ ?_
  conv => whnf
  refine XSplit.mk (fun e => ?_) (fun e => ?_)
  · replace h := XSplit.t h e
    conv => whnf
    refine ⟨_, Weak.a ?_, h⟩; (conv => whnf); exact ⟨rfl, rfl, rfl, rfl, rfl⟩
  · replace h := XSplit.f h e
    conv => whnf
    refine ASeq.go tab_ok mixed_ ?_
    conv => whnf
    refine ALoop.ofW tab_ok mixed_ (fun v4 => ⟨[(2, .ptr 0 0), (3, .ptr 1 0), (4, .kb false), (43, .int .i64 ((↑(List.length a6) : Int))), (44, .int .i64 (v4))], [(0, .box 26 [.int .i64 (a0), .int .i64 (a1), .int .i64 (a2), .int .i64 (a3), .int .i64 (a4), .sl (a5) 54 (a6), .int .i64 (a7)]), (1, .box 26 [.int .i64 (a8), .int .i64 (a9), .int .i64 (a10), .int .i64 (a11), .int .i64 (a12), .sl (a13) 54 (a14), .int .i64 (a15)])], 2, [], []⟩) (sx (fun v5 => (.ret, ⟨[(4, .kb false)], [], 0, [], []⟩)) (fun v6 => (.exit 0, ⟨[(4, .kb false)], [], 0, [], []⟩))) (W.bindE h) (Weak.a ?_) (fun v4 I Q h => ?_) (fun v h => ?_)
    · conv => whnf
      exact ⟨rfl, rfl, rfl, rfl, rfl⟩
    · conv => whnf
      refine ASeq.go tab_ok mixed_ ?_
      conv => whnf
      refine XSplit.mk (fun e => ?_) (fun e => ?_)
      · replace h := XSplit.t h e
        conv => whnf
        refine ASeq.go tab_ok mixed_ ?_
        conv => whnf
        refine XDraw.d [0, 1, 2, 3, 4, 5, 6, 7, 8, 9, 10, 11] (by decide +kernel) ?_
        conv => whnf
        refine XNeed.mk (XNeed.c h) ?_; replace h := XNeed.x h
        conv => whnf
        refine XNeed.mk (XNeed.c h) ?_; replace h := XNeed.x h
        conv => whnf
        refine ACalls.inn (c26 (W.bindE h) (fun v7 h => ?_)) rfl
        conv => whnf
        refine XSplit.mk (fun e => ?_) (fun e => ?_)
        · replace h := XSplit.t h e
          conv => whnf
          refine ⟨_, ?_, Weak.a ?_, h⟩; exact rfl; (conv => whnf); exact ⟨rfl, rfl, rfl, rfl, rfl⟩
        · replace h := XSplit.f h e
          conv => whnf
          refine ⟨_, Weak.a ?_, h⟩; (conv => whnf); exact ⟨rfl, rfl, rfl, rfl, rfl⟩
      · replace h := XSplit.f h e
        conv => whnf
        refine ⟨_, ?_, Weak.a ?_, h⟩; exact rfl; (conv => whnf); exact ⟨rfl, rfl, rfl, rfl, rfl⟩
    · cases v
      · rename_i v5
        conv => whnf
        refine ⟨_, Weak.a ?_, h⟩; (conv => whnf); exact ⟨rfl, rfl, rfl, rfl, rfl⟩
      · rename_i v6
        conv => whnf
        refine ⟨_, Weak.a ?_, h⟩; (conv => whnf); exact ⟨rfl, rfl, rfl, rfl, rfl⟩

theorem c3 {a0 : Int} {a1 : Int} {a2 : Int} {a3 : Int} {a4 : Int} {a5 : Bool} {a6 : Rws} {a7 : Int} {Q : Bool → Prop} {R : AV → List AB → Prop} (h : (g_law08_ModelChecks a0 a1 a2 a3 a4 a5 a6 a7).run Q) (k : ∀ r, Q r → R (.bool (r)) []) : ACalls Try.prog tab 3 [.agg [.int .i64 (a0), .int .i64 (a1), .int .i64 (a2), .int .i64 (a3), .int .i64 (a4), .sl (a5) 54 (a6), .int .i64 (a7)]] [] R := by
  refine ACalls.out (fun r => .bool (r)) (fun r => []) (Q := Q) (ACalls.introX tab_ok mixed_ (fn := Try.f3) (by kernel_rfl) rfl (by kernel_rfl) (by kernel_rfl) (Nat.le_of_ble_eq_true rfl) ?_) (by intros; intro e; cases e) (by intros; intro e; cases e) k
  conv => whnf
  refine ACalls.inn (c7 (W.bindE h) (fun v9 h => ?_)) rfl
  conv => whnf
  refine ACalls.inn (c8 (W.bindE h) (fun v10 h => ?_)) rfl
  conv => whnf
  refine ACalls.inn (c9 (W.bindE h) (fun v11 h => ?_)) rfl
  conv => whnf
  refine ACalls.inn (c10 (W.bindE h) (fun v12 h => ?_)) rfl
  conv => whnf
  refine ASeq.joinW tab_ok mixed_ (fun v13 => ⟨[(2, .bool (v13))], [], 0, [], []⟩) h (fun Q h => ?_) (fun v13 h => ?_)
  · conv => whnf
    refine XDraw.d [0, 1, 2, 4, 3, 5, 6, 7, 8, 9, 10, 11, 12, 13, 14, 15, 16, 17, 18, 19, 20, 21, 22, 23, 24, 25, 26, 27, 28, 29, 30, 31, 32] (by decide +kernel) ?_
    conv => whnf
    refine ACalls.inn (c11 (W.bindE h) (fun v14 h => ?_)) rfl
    conv => whnf
    refine XSplit.mk (fun e => ?_) (fun e => ?_)
    · replace h := XSplit.t h e
      conv => whnf
      refine ACalls.inn (c12 (W.bindE h) (fun v15 h => ?_)) rfl
      conv => whnf
      refine XSplit.mk (fun e => ?_) (fun e => ?_)
      · replace h := XSplit.t h e
        conv => whnf
        refine ACalls.inn (c13 (W.bindE h) (fun v16 h => ?_)) rfl
        conv => whnf
        refine XSplit.mk (fun e => ?_) (fun e => ?_)
        · replace h := XSplit.t h e
          conv => whnf
          refine ACalls.inn (c14 (W.bindE h) (fun v17 h => ?_)) rfl
          conv => whnf
          refine ⟨_, Weak.a ?_, h⟩; (conv => whnf); exact ⟨rfl, rfl, rfl, rfl, rfl⟩
        · replace h := XSplit.f h e
          conv => whnf
          refine ⟨_, Weak.a ?_, h⟩; (conv => whnf); exact ⟨rfl, rfl, rfl, rfl, rfl⟩
      · replace h := XSplit.f h e
        conv => whnf
        refine ⟨_, Weak.a ?_, h⟩; (conv => whnf); exact ⟨rfl, rfl, rfl, rfl, rfl⟩
    · replace h := XSplit.f h e
      conv => whnf
      refine ⟨_, Weak.a ?_, h⟩; (conv => whnf); exact ⟨rfl, rfl, rfl, rfl, rfl⟩
  · conv => whnf
    refine ⟨_, Weak.a ?_, h⟩; (conv => whnf); exact ⟨rfl, rfl, rfl, rfl, rfl⟩

theorem c4 {a0 : Int} {Q : Bool → Prop} {R : AV → List AB → Prop} (h : (g_law08_ModelKinds a0).run Q) (k : ∀ r, Q r → R (.bool (r)) []) : ACalls Try.prog tab 4 [.int .i64 (a0)] [] R := by
  refine ACalls.out (fun r => .bool (r)) (fun r => []) (Q := Q) (ACalls.introX tab_ok mixed_ (fn := Try.f4) (by kernel_rfl) rfl (by kernel_rfl) (by kernel_rfl) (Nat.le_of_ble_eq_true rfl) ?_) (by intros; intro e; cases e) (by intros; intro e; cases e) k
  conv => whnf
  refine ASeq.joinW tab_ok mixed_ (fun v4 => ⟨[(2, .bool (v4))], [], 0, [], []⟩) h (fun Q h => ?_) (fun v4 h => ?_)
  · conv => whnf
    refine ACalls.inn (c11 (W.bindE h) (fun v5 h => ?_)) rfl
    conv => whnf
    refine XSplit.mk (fun e => ?_) (fun e => ?_)
    · replace h := XSplit.t h e
      conv => whnf
      refine ACalls.inn (c15 (W.bindE h) (fun v6 h => ?_)) rfl
      conv => whnf
      refine ACalls.inn (c16 (W.bindE h) (fun v7 h => ?_)) rfl
      conv => whnf
      refine ⟨_, Weak.a ?_, h⟩; (conv => whnf); exact ⟨rfl, rfl, rfl, rfl, rfl⟩
    · replace h := XSplit.f h e
      conv => whnf
      refine ⟨_, Weak.a ?_, h⟩; (conv => whnf); exact ⟨rfl, rfl, rfl, rfl, rfl⟩
  · conv => whnf
    refine ⟨_, Weak.a ?_, h⟩; (conv => whnf); exact ⟨rfl, rfl, rfl, rfl, rfl⟩

theorem c17 {a0 : Int} {a1 : Int} {a2 : Int} {a3 : Int} {a4 : Int} {a5 : Bool} {a6 : Rws} {a7 : Int} {a8 : Int} {Q : Int × Int × Int × Int × Int × Int × Bool × Rws → Prop} {R : AV → List AB → Prop} (h : (g_law08_front a0 a1 a2 a3 a4 a5 a6 a7 a8).run Q) (k : ∀ r, Q r → R (.agg [.int .i64 (r.fst), .int .i64 (r.snd.fst), .int .i64 (r.snd.snd.fst), .int .i64 (r.snd.snd.snd.fst), .int .i64 (r.snd.snd.snd.snd.fst), .own 0, .int .i64 (r.snd.snd.snd.snd.snd.fst)]) [.arr true 54 (r.snd.snd.snd.snd.snd.snd.fst) (r.snd.snd.snd.snd.snd.snd.snd)]) : ACalls Try.prog tab 17 [.agg [.int .i64 (a0), .int .i64 (a1), .int .i64 (a2), .int .i64 (a3), .int .i64 (a4), .sl (a5) 54 (a6), .int .i64 (a7)], .int .i64 (a8)] [] R := by
  refine ACalls.out (fun r => .agg [.int .i64 (r.fst), .int .i64 (r.snd.fst), .int .i64 (r.snd.snd.fst), .int .i64 (r.snd.snd.snd.fst), .int .i64 (r.snd.snd.snd.snd.fst), .own 0, .int .i64 (r.snd.snd.snd.snd.snd.fst)]) (fun r => [.arr true 54 (r.snd.snd.snd.snd.snd.snd.fst) (r.snd.snd.snd.snd.snd.snd.snd)]) (Q := Q) (ACalls.introX tab_ok mixed_ (fn := Try.f17) (by kernel_rfl) rfl (by kernel_rfl) (by kernel_rfl) (Nat.le_of_ble_eq_true rfl) ?_) (by intros; intro e; cases e) (by intros; intro e; cases e) k
  conv => whnf
  refine XNeed.mk (XNeed.c h) ?_; replace h := XNeed.x h
  conv => whnf
  refine XNeed.mk (XNeed.c h) ?_; replace h := XNeed.x h
  conv => whnf
  refine ⟨_, Weak.a ?_, h⟩; (conv => whnf); exact ⟨rfl, rfl, rfl, rfl, rfl⟩

theorem c5 {a0 : Int} {a1 : Int} {a2 : Int} {a3 : Int} {a4 : Int} {a5 : Bool} {a6 : Rws} {a7 : Int} {a8 : Int} {Q : Bool → Prop} {R : AV → List AB → Prop} (h : (g_law08_ModelFronts a0 a1 a2 a3 a4 a5 a6 a7 a8).run Q) (k : ∀ r, Q r → R (.bool (r)) []) : ACalls Try.prog tab 5 [.agg [.int .i64 (a0), .int .i64 (a1), .int .i64 (a2), .int .i64 (a3), .int .i64 (a4), .sl (a5) 54 (a6), .int .i64 (a7)], .int .i64 (a8)] [] R := by
  refine ACalls.out (fun r => .bool (r)) (fun r => []) (Q := Q) (ACalls.introX tab_ok mixed_ (fn := Try.f5) (by kernel_rfl) rfl (by kernel_rfl) (by kernel_rfl) (Nat.le_of_ble_eq_true rfl) ?_) (by intros; intro e; cases e) (by intros; intro e; cases e) k
  conv => whnf
  refine ASeq.go tab_ok mixed_ ?_
  conv => whnf
  refine ACalls.inn (c11 (W.bindE h) (fun v12 h => ?_)) rfl
  conv => whnf
  refine XSplit.mk (fun e => ?_) (fun e => ?_)
  · replace h := XSplit.t h e
    conv => whnf
    refine ⟨_, Weak.a ?_, h⟩; (conv => whnf); exact ⟨rfl, rfl, rfl, rfl, rfl⟩
  · replace h := XSplit.f h e
    conv => whnf
    refine ACalls.inn (c12 (W.bindE h) (fun v13 h => ?_)) rfl
    conv => whnf
    refine ACalls.inn (c9 (W.bindE h) (fun v14 h => ?_)) rfl
    conv => whnf
    refine ACalls.inn (c10 (W.bindE h) (fun v15 h => ?_)) rfl
    conv => whnf
    refine ASeq.go tab_ok mixed_ ?_
    conv => whnf
    refine XSplit.mk (fun e => ?_) (fun e => ?_)
    · replace h := XSplit.t h e
      conv => whnf
      refine ⟨_, Weak.a ?_, h⟩; (conv => whnf); exact ⟨rfl, rfl, rfl, rfl, rfl⟩
    · replace h := XSplit.f h e
      conv => whnf
      refine ASeq.go tab_ok mixed_ ?_
      conv => whnf
      refine XSplit.mk (fun e => ?_) (fun e => ?_)
      · replace h := XSplit.t h e
        conv => whnf
        refine ASeq.joinW tab_ok mixed_ (fun v16 => ⟨[(1, .int .i64 (a8)), (2, .ptr 0 0), (4, .bool (v16)), (6, .own 1), (7, .ptr 2 0), (8, .int .i64 (v15.fst)), (9, .ptr 3 0)], [(0, .box 26 [.int .i64 (a0), .int .i64 (a1), .int .i64 (a2), .int .i64 (a3), .int .i64 (a4), .sl (a5) 54 (a6), .int .i64 (a7)]), (1, .arr true 23 (v14.snd.snd.snd.fst) (v14.snd.snd.snd.snd)), (2, .box 31 [.int .i64 (v14.fst), .int .i64 (v14.snd.fst), .int .i64 (v14.snd.snd.fst)]), (3, .box 31 [.int .i64 (v15.snd.fst), .int .i64 (v15.snd.snd.fst), .int .i64 (v15.snd.snd.snd)])], 4, [], []⟩) h (fun Q h => ?_) (fun v16 h => ?_)
        · conv => whnf
          refine XSplit.mk (fun e => ?_) (fun e => ?_)
          · replace h := XSplit.t h e
            conv => whnf
            refine XSplit.mk (fun e => ?_) (fun e => ?_)
            · replace h := XSplit.t h e
              conv => whnf
              refine ⟨_, Weak.a ?_, h⟩; (conv => whnf); exact ⟨rfl, rfl, rfl, rfl, rfl⟩
            · replace h := XSplit.f h e
              conv => whnf
              refine ACalls.inn (c17 (W.bindE h) (fun v17 h => ?_)) rfl
              conv => whnf
              refine ACalls.inn (c12 (W.bindE h) (fun v18 h => ?_)) rfl
              conv => whnf
              refine ⟨_, Weak.a ?_, h⟩; (conv => whnf); exact ⟨rfl, rfl, rfl, rfl, rfl⟩
          · replace h := XSplit.f h e
            conv => whnf
            refine ⟨_, Weak.a ?_, h⟩; (conv => whnf); exact ⟨rfl, rfl, rfl, rfl, rfl⟩
        · conv => whnf
          refine ⟨_, Weak.a ?_, h⟩; (conv => whnf); exact ⟨rfl, rfl, rfl, rfl, rfl⟩
      · replace h := XSplit.f h e
        conv => whnf
        refine XNeed.mk (XNeed.c h) ?_; replace h := XNeed.x h
        conv => whnf
        refine ACalls.inn (c17 (W.bindE h) (fun v19 h => ?_)) rfl
        conv => whnf
        refine ACalls.inn (c9 (W.bindE h) (fun v20 h => ?_)) rfl
        conv => whnf
        refine ACalls.inn (c10 (W.bindE h) (fun v21 h => ?_)) rfl
        conv => whnf
        refine ASeq.joinW tab_ok mixed_ (fun v22 => ⟨[(4, .bool (v22))], [], 0, [], []⟩) h (fun Q h => ?_) (fun v22 h => ?_)
        · conv => whnf
          refine XNeed.mk (XNeed.c h) ?_; replace h := XNeed.x h
          conv => whnf
          refine XSplit.mk (fun e => ?_) (fun e => ?_)
          · replace h := XSplit.t h e
            conv => whnf
            refine ACalls.inn (c13 (W.bindE h) (fun v23 h => ?_)) rfl
            conv => whnf
            refine ⟨_, Weak.a ?_, h⟩; (conv => whnf); exact ⟨rfl, rfl, rfl, rfl, rfl⟩
          · replace h := XSplit.f h e
            conv => whnf
            refine ⟨_, Weak.a ?_, h⟩; (conv => whnf); exact ⟨rfl, rfl, rfl, rfl, rfl⟩
        · conv => whnf
          refine ⟨_, Weak.a ?_, h⟩; (conv => whnf); exact ⟨rfl, rfl, rfl, rfl, rfl⟩

theorem c6 {a0 : Int} {a1 : Int} {a2 : Int} {a3 : Int} {a4 : Int} {a5 : Bool} {a6 : Rws} {a7 : Int} {Q : Bool → Prop} {R : AV → List AB → Prop} (h : (g_law08_ModelShapes a0 a1 a2 a3 a4 a5 a6 a7).run Q) (k : ∀ r, Q r → R (.bool (r)) []) : ACalls Try.prog tab 6 [.agg [.int .i64 (a0), .int .i64 (a1), .int .i64 (a2), .int .i64 (a3), .int .i64 (a4), .sl (a5) 54 (a6), .int .i64 (a7)]] [] R := by
  refine ACalls.out (fun r => .bool (r)) (fun r => []) (Q := Q) (ACalls.introX tab_ok mixed_ (fn := Try.f6) (by kernel_rfl) rfl (by kernel_rfl) (by kernel_rfl) (Nat.le_of_ble_eq_true rfl) ?_) (by intros; intro e; cases e) (by intros; intro e; cases e) k
  conv => whnf
  refine ASeq.go tab_ok mixed_ ?_
  conv => whnf
  refine ACalls.inn (c11 (W.bindE h) (fun v8 h => ?_)) rfl
  conv => whnf
  refine XSplit.mk (fun e => ?_) (fun e => ?_)
  · replace h := XSplit.t h e
    conv => whnf
    refine ⟨_, Weak.a ?_, h⟩; (conv => whnf); exact ⟨rfl, rfl, rfl, rfl, rfl⟩
  · replace h := XSplit.f h e
    conv => whnf
    refine ACalls.inn (c9 (W.bindE h) (fun v9 h => ?_)) rfl
    conv => whnf
    refine ASeq.go tab_ok mixed_ ?_
    conv => whnf
    refine XSplit.mk (fun e => ?_) (fun e => ?_)
    · replace h := XSplit.t h e
      conv => whnf
      refine ⟨_, Weak.a ?_, h⟩; (conv => whnf); exact ⟨rfl, rfl, rfl, rfl, rfl⟩
    · replace h := XSplit.f h e
      conv => whnf
      refine ASeq.go tab_ok mixed_ ?_
      conv => whnf
      refine XDraw.q [0, 1, 2, 3, 4, 5, 6, 7, 8, 9, 10, 11, 12, 13, 14] (by decide +kernel) ?_
      conv => whnf
      refine XNeed.mk (XNeed.c h) ?_; replace h := XNeed.x h
      conv => whnf
      refine XSplit.mk (fun e => ?_) (fun e => ?_)
      · replace h := XSplit.t h e
        conv => whnf
        refine ⟨_, Weak.a ?_, h⟩; (conv => whnf); exact ⟨rfl, rfl, rfl, rfl, rfl⟩
      · replace h := XSplit.f h e
        conv => whnf
        refine ASeq.go tab_ok mixed_ ?_
        conv => whnf
        refine ALoop.ofW tab_ok mixed_ (fun v10 => ⟨[(2, .kb false), (3, .own 0), (43, .sl (a5) 54 (a6)), (44, .int .i64 ((↑(List.length a6) : Int))), (45, .int .i64 (v10))], [(0, .arr true 23 (v9.snd.snd.snd.fst) (v9.snd.snd.snd.snd))], 1, [], []⟩) (sx (fun v11 => (.ret, ⟨[(2, .kb false)], [], 0, [], []⟩)) (fun v12 => (.exit 0, ⟨[(2, .kb false)], [], 0, [], []⟩))) (W.bindE h) (Weak.a ?_) (fun v10 I Q h => ?_) (fun v h => ?_)
        · conv => whnf
          exact ⟨rfl, rfl, rfl, rfl, rfl⟩
        · conv => whnf
          refine ASeq.go tab_ok mixed_ ?_
          conv => whnf
          refine XSplit.mk (fun e => ?_) (fun e => ?_)
          · replace h := XSplit.t h e
            conv => whnf
            refine ASeq.go tab_ok mixed_ ?_
            conv => whnf
            refine XNeed.mk (XNeed.c h) ?_; replace h := XNeed.x h
            conv => whnf
            refine ASeq.go tab_ok mixed_ ?_
            conv => whnf
            refine XSplit.mk (fun e => ?_) (fun e => ?_)
            · replace h := XSplit.t h e
              conv => whnf
              refine ⟨_, ?_, Weak.a ?_, h⟩; exact rfl; (conv => whnf); exact ⟨rfl, rfl, rfl, rfl, rfl⟩
            · replace h := XSplit.f h e
              conv => whnf
              refine ASeq.eff tab_ok mixed_ [0, 1, 2, 3, 4, 5, 6, 7, 8, 9] (.alt 10 (.alt 11 (.alt 12 (.alt 13 .done .stop) .stop) .stop) (.alt 11 (.alt 10 (.alt 12 (.alt 13 .done .stop) .stop) .stop) .stop)) (by decide +kernel) (st' := ⟨[(2, .kb false), (3, .own 0), (5, .int .i64 (v10)), (6, .ptr 1 0), (7, .ptr 2 0), (8, .ptr 3 0), (43, .sl (a5) 54 (a6)), (44, .int .i64 ((↑(List.length a6) : Int))), (45, .int .i64 (v10)), (46, .bool (decide (v10 < (↑(List.length a6) : Int)))), (47, .int .i64 (v10)), (48, .rel 54 (a6) (v10.toNat) 0), (49, .agg [.int .i64 (ri a6 v10.toNat 0), .int .i64 (ri a6 v10.toNat 1), .int .i64 (ri a6 v10.toNat 2), .int .i64 (ri a6 v10.toNat 3), .int .i64 (ri a6 v10.toNat 4), .int .i64 (ri a6 v10.toNat 5), .int .i64 (ri a6 v10.toNat 6), .int .i64 (ri a6 v10.toNat 7), .int .i64 (ri a6 v10.toNat 8), .int .i64 (ri a6 v10.toNat 9), .int .i64 (ri a6 v10.toNat 10), .int .i64 (ri a6 v10.toNat 11), .sl (rn a6 v10.toNat 12) 76 (rr a6 v10.toNat 12), .sl (rn a6 v10.toNat 13) 21 (rr a6 v10.toNat 13), .int .i64 (ri a6 v10.toNat 14), .int .i64 (ri a6 v10.toNat 15), .int .i64 (ri a6 v10.toNat 16), .int .i64 (ri a6 v10.toNat 17), .int .i64 (ri a6 v10.toNat 18), .int .i64 (ri a6 v10.toNat 19), .int .i64 (ri a6 v10.toNat 20), .int .i64 (ri a6 v10.toNat 21)]), (50, .ptr 1 1), (51, .int .i64 (ri a6 v10.toNat 1)), (52, .bool (decide (ri a6 v10.toNat 1 < 0))), (53, .bool (decide (ri a6 v10.toNat 1 < 0))), (58, .bool (decide (ri a6 v10.toNat 1 < 0) || decide (v10 < ri a6 v10.toNat 1))), (59, .own 0), (60, .ptr 1 1), (61, .int .i64 (ri a6 v10.toNat 1)), (62, .elt 0 ((ri a6 v10.toNat 1).toNat) 0), (63, .agg [.int .i64 (ri v9.snd.snd.snd.snd (ri a6 v10.toNat 1).toNat 0), .int .i64 (ri v9.snd.snd.snd.snd (ri a6 v10.toNat 1).toNat 1), .int .i64 (ri v9.snd.snd.snd.snd (ri a6 v10.toNat 1).toNat 2)]), (64, .own 0), (65, .int .i64 (v10)), (66, .int .i64 (IntKind.i64.wrap (v10 + 1))), (67, .elt 0 ((IntKind.i64.wrap (v10 + 1)).toNat) 0), (68, .agg [.int .i64 (ri v9.snd.snd.snd.snd (IntKind.i64.wrap (v10 + 1)).toNat 0), .int .i64 (ri v9.snd.snd.snd.snd (IntKind.i64.wrap (v10 + 1)).toNat 1), .int .i64 (ri v9.snd.snd.snd.snd (IntKind.i64.wrap (v10 + 1)).toNat 2)])], [(0, .arr true 23 (v9.snd.snd.snd.fst) (v9.snd.snd.snd.snd)), (1, .box 54 [.int .i64 (ri a6 v10.toNat 0), .int .i64 (ri a6 v10.toNat 1), .int .i64 (ri a6 v10.toNat 2), .int .i64 (ri a6 v10.toNat 3), .int .i64 (ri a6 v10.toNat 4), .int .i64 (ri a6 v10.toNat 5), .int .i64 (ri a6 v10.toNat 6), .int .i64 (ri a6 v10.toNat 7), .int .i64 (ri a6 v10.toNat 8), .int .i64 (ri a6 v10.toNat 9), .int .i64 (ri a6 v10.toNat 10), .int .i64 (ri a6 v10.toNat 11), .sl (rn a6 v10.toNat 12) 76 (rr a6 v10.toNat 12), .sl (rn a6 v10.toNat 13) 21 (rr a6 v10.toNat 13), .int .i64 (ri a6 v10.toNat 14), .int .i64 (ri a6 v10.toNat 15), .int .i64 (ri a6 v10.toNat 16), .int .i64 (ri a6 v10.toNat 17), .int .i64 (ri a6 v10.toNat 18), .int .i64 (ri a6 v10.toNat 19), .int .i64 (ri a6 v10.toNat 20), .int .i64 (ri a6 v10.toNat 21)]), (2, .box 23 [.int .i64 (ri v9.snd.snd.snd.snd (ri a6 v10.toNat 1).toNat 0), .int .i64 (ri v9.snd.snd.snd.snd (ri a6 v10.toNat 1).toNat 1), .int .i64 (ri v9.snd.snd.snd.snd (ri a6 v10.toNat 1).toNat 2)]), (3, .box 23 [.int .i64 (ri v9.snd.snd.snd.snd (IntKind.i64.wrap (v10 + 1)).toNat 0), .int .i64 (ri v9.snd.snd.snd.snd (IntKind.i64.wrap (v10 + 1)).toNat 1), .int .i64 (ri v9.snd.snd.snd.snd (IntKind.i64.wrap (v10 + 1)).toNat 2)])], 4, [], []⟩) ?_ ?_
              · conv => whnf
                refine XNeed.mk (XNeed.c h) ?_; replace h := XNeed.x h
                conv => whnf
                refine XNeed.mk (XNeed.c h) ?_; replace h := XNeed.x h
                conv => whnf
                refine ⟨?_, rfl⟩
                conv => whnf
                refine ⟨?_, ?_⟩
                · conv => whnf
                  refine ⟨?_, ?_⟩
                  · conv => whnf
                    refine ⟨?_, ?_⟩
                    · conv => whnf
                      refine ⟨?_, ?_⟩
                      · conv => whnf
                        refine ⟨Weak.a ?_⟩; (conv => whnf); exact ⟨rfl, rfl, rfl, rfl, rfl⟩
                      · conv => whnf
                        exact trivial
                    · conv => whnf
                      exact trivial
                  · conv => whnf
                    exact trivial
                · conv => whnf
                  refine ⟨?_, ?_⟩
                  · conv => whnf
                    refine ⟨?_, ?_⟩
                    · conv => whnf
                      refine ⟨?_, ?_⟩
                      · conv => whnf
                        refine ⟨?_, ?_⟩
                        · conv => whnf
                          refine ⟨Weak.a ?_⟩; (conv => whnf); exact ⟨rfl, rfl, rfl, rfl, rfl⟩
                        · conv => whnf
                          exact trivial
                      · conv => whnf
                        exact trivial
                    · conv => whnf
                      exact trivial
                  · conv => whnf
                    exact trivial
              · replace h := XNeed.x h
                replace h := XNeed.x h
                conv => whnf
                refine ASeq.go tab_ok mixed_ ?_
                conv => whnf
                refine ACalls.inn (c18 (W.bindE h) (fun v13 h => ?_)) rfl
                conv => whnf
                refine XSplit.mk (fun e => ?_) (fun e => ?_)
                · replace h := XSplit.t h e
                  conv => whnf
                  refine ⟨_, ?_, Weak.a ?_, h⟩; exact rfl; (conv => whnf); exact ⟨rfl, rfl, rfl, rfl, rfl⟩
                · replace h := XSplit.f h e
                  conv => whnf
                  refine ASeq.joinE tab_ok mixed_ (fun v14 => ⟨[(2, .kb false), (3, .own 0), (5, .int .i64 (v10)), (6, .ptr 1 0), (7, .ptr 2 0), (8, .ptr 3 0), (10, .int .i64 (v13.snd)), (43, .sl (a5) 54 (a6)), (44, .int .i64 ((↑(List.length a6) : Int))), (45, .int .i64 (v10)), (46, .bool (decide (v10 < (↑(List.length a6) : Int)))), (47, .int .i64 (v10)), (48, .rel 54 (a6) (v10.toNat) 0), (49, .agg [.int .i64 (ri a6 v10.toNat 0), .int .i64 (ri a6 v10.toNat 1), .int .i64 (ri a6 v10.toNat 2), .int .i64 (ri a6 v10.toNat 3), .int .i64 (ri a6 v10.toNat 4), .int .i64 (ri a6 v10.toNat 5), .int .i64 (ri a6 v10.toNat 6), .int .i64 (ri a6 v10.toNat 7), .int .i64 (ri a6 v10.toNat 8), .int .i64 (ri a6 v10.toNat 9), .int .i64 (ri a6 v10.toNat 10), .int .i64 (ri a6 v10.toNat 11), .sl (rn a6 v10.toNat 12) 76 (rr a6 v10.toNat 12), .sl (rn a6 v10.toNat 13) 21 (rr a6 v10.toNat 13), .int .i64 (ri a6 v10.toNat 14), .int .i64 (ri a6 v10.toNat 15), .int .i64 (ri a6 v10.toNat 16), .int .i64 (ri a6 v10.toNat 17), .int .i64 (ri a6 v10.toNat 18), .int .i64 (ri a6 v10.toNat 19), .int .i64 (ri a6 v10.toNat 20), .int .i64 (ri a6 v10.toNat 21)]), (50, .ptr 1 1), (51, .int .i64 (ri a6 v10.toNat 1)), (52, .bool (decide (ri a6 v10.toNat 1 < 0))), (53, .bool (decide (ri a6 v10.toNat 1 < 0))), (58, .bool (decide (ri a6 v10.toNat 1 < 0) || decide (v10 < ri a6 v10.toNat 1))), (59, .own 0), (60, .ptr 1 1), (61, .int .i64 (ri a6 v10.toNat 1)), (62, .elt 0 ((ri a6 v10.toNat 1).toNat) 0), (63, .agg [.int .i64 (ri v9.snd.snd.snd.snd (ri a6 v10.toNat 1).toNat 0), .int .i64 (ri v9.snd.snd.snd.snd (ri a6 v10.toNat 1).toNat 1), .int .i64 (ri v9.snd.snd.snd.snd (ri a6 v10.toNat 1).toNat 2)]), (64, .own 0), (65, .int .i64 (v10)), (66, .int .i64 (IntKind.i64.wrap (v10 + 1))), (67, .elt 0 ((IntKind.i64.wrap (v10 + 1)).toNat) 0), (68, .agg [.int .i64 (ri v9.snd.snd.snd.snd (IntKind.i64.wrap (v10 + 1)).toNat 0), .int .i64 (ri v9.snd.snd.snd.snd (IntKind.i64.wrap (v10 + 1)).toNat 1), .int .i64 (ri v9.snd.snd.snd.snd (IntKind.i64.wrap (v10 + 1)).toNat 2)]), (69, .tup [.int .i64 (v13.fst), .int .i64 (v13.snd)]), (70, .agg [.int .i64 (ri v9.snd.snd.snd.snd (IntKind.i64.wrap (v10 + 1)).toNat 0), .int .i64 (ri v9.snd.snd.snd.snd (IntKind.i64.wrap (v10 + 1)).toNat 1), .int .i64 (ri v9.snd.snd.snd.snd (IntKind.i64.wrap (v10 + 1)).toNat 2)]), (71, .tup [.int .i64 (v13.fst), .int .i64 (v13.snd)]), (72, .int .i64 (v13.fst)), (73, .int .i64 (v13.snd)), (74, .int .i64 (v13.snd)), (75, .bool (v13.snd != 0)), (76, .ptr 1 0), (77, .int .i64 (ri a6 v10.toNat 0)), (78, .bool (decide (2 ≤ ri a6 v10.toNat 0))), (79, .bool (decide (2 ≤ ri a6 v10.toNat 0))), (83, .bool (decide (2 ≤ ri a6 v10.toNat 0) && decide (ri a6 v10.toNat 0 ≤ 5)))], [(0, .arr true 23 (v9.snd.snd.snd.fst) (v9.snd.snd.snd.snd)), (1, .box 54 [.int .i64 (ri a6 v10.toNat 0), .int .i64 (ri a6 v10.toNat 1), .int .i64 (ri a6 v10.toNat 2), .int .i64 (ri a6 v10.toNat 3), .int .i64 (ri a6 v10.toNat 4), .int .i64 (ri a6 v10.toNat 5), .int .i64 (ri a6 v10.toNat 6), .int .i64 (ri a6 v10.toNat 7), .int .i64 (ri a6 v10.toNat 8), .int .i64 (ri a6 v10.toNat 9), .int .i64 (ri a6 v10.toNat 10), .int .i64 (ri a6 v10.toNat 11), .sl (rn a6 v10.toNat 12) 76 (rr a6 v10.toNat 12), .sl (rn a6 v10.toNat 13) 21 (rr a6 v10.toNat 13), .int .i64 (ri a6 v10.toNat 14), .int .i64 (ri a6 v10.toNat 15), .int .i64 (ri a6 v10.toNat 16), .int .i64 (ri a6 v10.toNat 17), .int .i64 (ri a6 v10.toNat 18), .int .i64 (ri a6 v10.toNat 19), .int .i64 (ri a6 v10.toNat 20), .int .i64 (ri a6 v10.toNat 21)]), (2, .box 23 [.int .i64 (ri v9.snd.snd.snd.snd (ri a6 v10.toNat 1).toNat 0), .int .i64 (ri v9.snd.snd.snd.snd (ri a6 v10.toNat 1).toNat 1), .int .i64 (ri v9.snd.snd.snd.snd (ri a6 v10.toNat 1).toNat 2)]), (3, .box 23 [.int .i64 (ri v9.snd.snd.snd.snd (IntKind.i64.wrap (v10 + 1)).toNat 0), .int .i64 (ri v9.snd.snd.snd.snd (IntKind.i64.wrap (v10 + 1)).toNat 1), .int .i64 (ri v9.snd.snd.snd.snd (IntKind.i64.wrap (v10 + 1)).toNat 2)])], 4, [], []⟩) h (fun Q h => ?_) (fun v14 h => ?_)
                  · conv => whnf
                    refine XSplit.mk (fun e => ?_) (fun e => ?_)
                    · replace h := XSplit.t h e
                      conv => whnf
                      refine ACalls.inn (c19 (W.bindE h) (fun v15 h => ?_)) rfl
                      conv => whnf
                      refine XSplit.mk (fun e => ?_) (fun e => ?_)
                      · replace h := XSplit.t h e
                        conv => whnf
                        refine ⟨_, ?_, Weak.a ?_, h⟩; exact rfl; (conv => whnf); exact ⟨rfl, rfl, rfl, rfl, rfl⟩
                      · replace h := XSplit.f h e
                        conv => whnf
                        refine ⟨_, Weak.a ?_, h⟩; (conv => whnf); exact ⟨rfl, rfl, rfl, rfl, rfl⟩
                    · replace h := XSplit.f h e
                      conv => whnf
                      refine ⟨_, Weak.a ?_, h⟩; (conv => whnf); exact ⟨rfl, rfl, rfl, rfl, rfl⟩
                  · conv => whnf
                    refine XSplit.mk (fun e => ?_) (fun e => ?_)
                    · replace h := XSplit.t h e
                      conv => whnf
                      refine ⟨_, ?_, Weak.a ?_, h⟩; exact rfl; (conv => whnf); exact ⟨rfl, rfl, rfl, rfl, rfl⟩
                    · replace h := XSplit.f h e
                      conv => whnf
                      refine ⟨_, Weak.a ?_, h⟩; (conv => whnf); exact ⟨rfl, rfl, rfl, rfl, rfl⟩
          · replace h := XSplit.f h e
            conv => whnf
            refine ⟨_, ?_, Weak.a ?_, h⟩; exact rfl; (conv => whnf); exact ⟨rfl, rfl, rfl, rfl, rfl⟩
        · cases v
          · rename_i v11
            conv => whnf
            refine ⟨_, Weak.a ?_, h⟩; (conv => whnf); exact ⟨rfl, rfl, rfl, rfl, rfl⟩
          · rename_i v12
            conv => whnf
            refine ⟨_, Weak.a ?_, h⟩; (conv => whnf); exact ⟨rfl, rfl, rfl, rfl, rfl⟩
end Go.Proofs.Ytaghkmaelbgljaa.V08
