import Derived.Test.YtaghkmaelbgljaaVXx
namespace Go.Proofs.Ytaghkmaelbgljaa.VX
open Go.Proofs
set_option maxRecDepth 100000
set_option maxHeartbeats 0
theorem fixed_run (R : AV → List AB → Prop) (h : R (.kb true) []) : ACalls Try.prog tab 11 [] [] R := by
  refine ACalls.introX tab_ok mixed_ (fn := Try.f11) (by kernel_rfl) rfl (by kernel_rfl) (by kernel_rfl) (Nat.le_of_ble_eq_true rfl) ?_
  conv => whnf
  iterate ((with_reducible (first
    | exact h
    | refine c25 _ _ rfl ?_ | refine c10 _ _ rfl ?_ | refine c9 _ _ rfl ?_ | refine c24 _ _ rfl ?_ | refine c12 _ _ rfl ?_ | refine c15 _ _ rfl ?_ | refine c36 _ _ rfl ?_ | refine c41 _ _ rfl ?_ | refine c42 _ _ rfl ?_ | refine c43 _ _ rfl ?_ | refine c44 _ _ rfl ?_ | refine c45 _ _ rfl ?_ | refine c18 _ _ rfl ?_ | refine c19 _ _ rfl ?_ | refine c35 _ _ rfl ?_ | refine c27 _ _ rfl ?_ | refine c37 _ _ rfl ?_ | refine c46 _ _ rfl ?_
    | refine ALoop.unroll tab_ok mixed_ (kn := fun st => ALoop Try.prog tab _ st _) (fun _ h => h) ?_
    | refine XDraw.q [0,1,2,3,4,5,6,7,8,9,10,11,12,13,14,15,16,17,18,19,20,21,22,23,24,25,26,27,28,29,30,31] (by decide +kernel) ?_ | refine XDraw.q [0,1,2,3,4,5,6,7,8,9,10,11,12,13,14,15,16,17,18,19,20,21,22,23] (by decide +kernel) ?_ | refine XDraw.q [0,1,2,3,4,5,6,7,8,9,10,11,12] (by decide +kernel) ?_ | refine XDraw.q [0,1,2,3,4,5,6,7,8,9,10,11,12,13,14] (by decide +kernel) ?_
    | refine XDraw.d [0,1,2,3] (by decide +kernel) ?_ | refine XDraw.d [0,1,2,3,4,5,6,7,8,9,10,11,12,13] (by decide +kernel) ?_ | refine XDraw.d [0,1,2,3,4,5,6,7,8,9,10,11,12] (by decide +kernel) ?_ | refine XDraw.d [0,1,2,3,4,5] (by decide +kernel) ?_ | refine XDraw.d [0,1,2,3,4,5,6,7,8,9,10,11,12,13,14,15] (by decide +kernel) ?_
    | refine XNeed.mk (by decide +kernel) ?_ | refine XNeed.mk (fun _ => by decide +kernel) ?_
    | (refine XSplit.mk (fun e => ?_) (fun e => absurd e (by decide +kernel)); clear e) | (refine XSplit.mk (fun e => absurd e (by decide +kernel)) (fun e => ?_); clear e))); try (conv => whnf))
  exact h
end Go.Proofs.Ytaghkmaelbgljaa.VX
