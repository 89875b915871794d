/- The functions are their pure forms. -/
import Derived.Test.YtpoakneeceaooaaVC0
set_option linter.unusedVariables false
set_option linter.unusedSimpArgs false
set_option linter.unusedVariables false
set_option maxRecDepth 100000
set_option maxHeartbeats 0
namespace Go.Proofs.Ytpoakneeceaooaa.V09
open Go.Proofs Go.Proofs.Ytpoakneeceaooaa.VX
theorem c___pack_decoder__one_p {a0 : Int} {a1 : Int} {a2 : Bool} {a3 : Rws} {a4 : Int} {Q : (Int × Int × Int × Int × Int × Int × Int × Int × Int × Int × Int × Int × Bool × Rws × Bool × Rws × Int × Int × Int × Int × Int × Int × Int × Int × Int × Int) ⊕ (Int × Int × Int × Int × Int) → Prop} {R : AV → List AB → Prop} (h : (g___pack_decoder__one_p a0 a1 a2 a3 a4).run Q) (k : ∀ r, Q r → R (sx (fun r => .agg [.int .i64 (r.fst), .int .i64 (r.snd.fst), .int .i64 (r.snd.snd.fst), .int .i64 (r.snd.snd.snd.fst), .int .i64 (r.snd.snd.snd.snd.fst), .int .i64 (r.snd.snd.snd.snd.snd.fst), .int .i64 (r.snd.snd.snd.snd.snd.snd.fst), .int .i64 (r.snd.snd.snd.snd.snd.snd.snd.fst), .int .i64 (r.snd.snd.snd.snd.snd.snd.snd.snd.fst), .int .i64 (r.snd.snd.snd.snd.snd.snd.snd.snd.snd.fst), .int .i64 (r.snd.snd.snd.snd.snd.snd.snd.snd.snd.snd.fst), .int .i64 (r.snd.snd.snd.snd.snd.snd.snd.snd.snd.snd.snd.fst), .sl (r.snd.snd.snd.snd.snd.snd.snd.snd.snd.snd.snd.snd.fst) 51 (r.snd.snd.snd.snd.snd.snd.snd.snd.snd.snd.snd.snd.snd.fst), .sl (r.snd.snd.snd.snd.snd.snd.snd.snd.snd.snd.snd.snd.snd.snd.fst) 21 (r.snd.snd.snd.snd.snd.snd.snd.snd.snd.snd.snd.snd.snd.snd.snd.fst), .int .i64 (r.snd.snd.snd.snd.snd.snd.snd.snd.snd.snd.snd.snd.snd.snd.snd.snd.fst), .int .i64 (r.snd.snd.snd.snd.snd.snd.snd.snd.snd.snd.snd.snd.snd.snd.snd.snd.snd.fst), .int .i64 (r.snd.snd.snd.snd.snd.snd.snd.snd.snd.snd.snd.snd.snd.snd.snd.snd.snd.snd.fst), .int .i64 (r.snd.snd.snd.snd.snd.snd.snd.snd.snd.snd.snd.snd.snd.snd.snd.snd.snd.snd.snd.fst), .int .i64 (r.snd.snd.snd.snd.snd.snd.snd.snd.snd.snd.snd.snd.snd.snd.snd.snd.snd.snd.snd.snd.fst), .int .i64 (r.snd.snd.snd.snd.snd.snd.snd.snd.snd.snd.snd.snd.snd.snd.snd.snd.snd.snd.snd.snd.snd.fst), .int .i64 (r.snd.snd.snd.snd.snd.snd.snd.snd.snd.snd.snd.snd.snd.snd.snd.snd.snd.snd.snd.snd.snd.snd.fst), .int .i64 (r.snd.snd.snd.snd.snd.snd.snd.snd.snd.snd.snd.snd.snd.snd.snd.snd.snd.snd.snd.snd.snd.snd.snd.fst)]) (fun r => .iface 67 (.agg [.int .i64 (r.fst), .int .i64 (r.snd.fst), .int .i64 (r.snd.snd.fst)])) r) (sx (fun r => [.box 72 [.ptr 1 0, .int .i64 (a0)], .box 98 [.ptr 2 0, .int .i64 (r.snd.snd.snd.snd.snd.snd.snd.snd.snd.snd.snd.snd.snd.snd.snd.snd.snd.snd.snd.snd.snd.snd.snd.snd.fst)], .box 96 [.sl (a2) 5 (a3), .int .i64 (r.snd.snd.snd.snd.snd.snd.snd.snd.snd.snd.snd.snd.snd.snd.snd.snd.snd.snd.snd.snd.snd.snd.snd.snd.snd)]]) (fun r => [.box 72 [.ptr 1 0, .int .i64 (a0)], .box 98 [.ptr 2 0, .int .i64 (r.snd.snd.snd.fst)], .box 96 [.sl (a2) 5 (a3), .int .i64 (r.snd.snd.snd.snd)]]) r)) : ACalls Try.prog tab 36 [.ptr 0 0] [.box 72 [.ptr 1 0, .int .i64 (a0)], .box 98 [.ptr 2 0, .int .i64 (a1)], .box 96 [.sl (a2) 5 (a3), .int .i64 (a4)]] R := by
  refine ACalls.out (fun r => sx (fun r => .agg [.int .i64 (r.fst), .int .i64 (r.snd.fst), .int .i64 (r.snd.snd.fst), .int .i64 (r.snd.snd.snd.fst), .int .i64 (r.snd.snd.snd.snd.fst), .int .i64 (r.snd.snd.snd.snd.snd.fst), .int .i64 (r.snd.snd.snd.snd.snd.snd.fst), .int .i64 (r.snd.snd.snd.snd.snd.snd.snd.fst), .int .i64 (r.snd.snd.snd.snd.snd.snd.snd.snd.fst), .int .i64 (r.snd.snd.snd.snd.snd.snd.snd.snd.snd.fst), .int .i64 (r.snd.snd.snd.snd.snd.snd.snd.snd.snd.snd.fst), .int .i64 (r.snd.snd.snd.snd.snd.snd.snd.snd.snd.snd.snd.fst), .sl (r.snd.snd.snd.snd.snd.snd.snd.snd.snd.snd.snd.snd.fst) 51 (r.snd.snd.snd.snd.snd.snd.snd.snd.snd.snd.snd.snd.snd.fst), .sl (r.snd.snd.snd.snd.snd.snd.snd.snd.snd.snd.snd.snd.snd.snd.fst) 21 (r.snd.snd.snd.snd.snd.snd.snd.snd.snd.snd.snd.snd.snd.snd.snd.fst), .int .i64 (r.snd.snd.snd.snd.snd.snd.snd.snd.snd.snd.snd.snd.snd.snd.snd.snd.fst), .int .i64 (r.snd.snd.snd.snd.snd.snd.snd.snd.snd.snd.snd.snd.snd.snd.snd.snd.snd.fst), .int .i64 (r.snd.snd.snd.snd.snd.snd.snd.snd.snd.snd.snd.snd.snd.snd.snd.snd.snd.snd.fst), .int .i64 (r.snd.snd.snd.snd.snd.snd.snd.snd.snd.snd.snd.snd.snd.snd.snd.snd.snd.snd.snd.fst), .int .i64 (r.snd.snd.snd.snd.snd.snd.snd.snd.snd.snd.snd.snd.snd.snd.snd.snd.snd.snd.snd.snd.fst), .int .i64 (r.snd.snd.snd.snd.snd.snd.snd.snd.snd.snd.snd.snd.snd.snd.snd.snd.snd.snd.snd.snd.snd.fst), .int .i64 (r.snd.snd.snd.snd.snd.snd.snd.snd.snd.snd.snd.snd.snd.snd.snd.snd.snd.snd.snd.snd.snd.snd.fst), .int .i64 (r.snd.snd.snd.snd.snd.snd.snd.snd.snd.snd.snd.snd.snd.snd.snd.snd.snd.snd.snd.snd.snd.snd.snd.fst)]) (fun r => .iface 67 (.agg [.int .i64 (r.fst), .int .i64 (r.snd.fst), .int .i64 (r.snd.snd.fst)])) r) (fun r => sx (fun r => [.box 72 [.ptr 1 0, .int .i64 (a0)], .box 98 [.ptr 2 0, .int .i64 (r.snd.snd.snd.snd.snd.snd.snd.snd.snd.snd.snd.snd.snd.snd.snd.snd.snd.snd.snd.snd.snd.snd.snd.snd.fst)], .box 96 [.sl (a2) 5 (a3), .int .i64 (r.snd.snd.snd.snd.snd.snd.snd.snd.snd.snd.snd.snd.snd.snd.snd.snd.snd.snd.snd.snd.snd.snd.snd.snd.snd)]]) (fun r => [.box 72 [.ptr 1 0, .int .i64 (a0)], .box 98 [.ptr 2 0, .int .i64 (r.snd.snd.snd.fst)], .box 96 [.sl (a2) 5 (a3), .int .i64 (r.snd.snd.snd.snd)]]) r) (Q := Q) (ACalls.introX (mv := mv) tab_ok mixed_ (fn := Try.f36) (by kernel_rfl) rfl (by kernel_rfl) (by kernel_rfl) (Nat.le_of_ble_eq_true rfl) ?_) (fun v => by first | exact ⟨rfl, Nat.le_of_ble_eq_true rfl⟩ | (cases v <;> exact ⟨rfl, Nat.le_of_ble_eq_true rfl⟩)) k
  conv => whnf
  refine ASeq.go tab_ok mixed_ ?_
  conv => whnf
  refine ACalls.inn (c_pack_numbers_p_2 (W.bindE h) (fun v55 h => ?_)) ⟨rfl, rfl⟩
  conv => whnf
  refine ALoop.unroll tab_ok mixed_ (kn := fun st => ALoop Try.prog tab _ _ _ _ st _) (fun _ h => h) ?_
  conv => whnf
  refine ASeq.go tab_ok mixed_ ?_
  conv => whnf
  refine XSplit.tt rfl ?_
  conv => whnf
  refine ASeq.go tab_ok mixed_ ?_
  conv => whnf
  refine XNeed.mk (of_decide_eq_true rfl) ?_
  conv => whnf
  refine ACalls.inn (c___pack_decoder__u_p (W.bindE h) (fun v h => ?_)) ⟨rfl, rfl⟩
  rcases v with v56 | v109
  · conv => whnf
    refine ALoop.unroll tab_ok mixed_ (kn := fun st => ALoop Try.prog tab _ _ _ _ st _) (fun _ h => h) ?_
    conv => whnf
    refine ASeq.go tab_ok mixed_ ?_
    conv => whnf
    refine XSplit.tt rfl ?_
    conv => whnf
    refine ASeq.go tab_ok mixed_ ?_
    conv => whnf
    refine XNeed.mk (of_decide_eq_true rfl) ?_
    conv => whnf
    refine ACalls.inn (c___pack_decoder__u_p (W.bindE h) (fun v h => ?_)) ⟨rfl, rfl⟩
    rcases v with v57 | v108
    · conv => whnf
      refine ALoop.unroll tab_ok mixed_ (kn := fun st => ALoop Try.prog tab _ _ _ _ st _) (fun _ h => h) ?_
      conv => whnf
      refine ASeq.go tab_ok mixed_ ?_
      conv => whnf
      refine XSplit.tt rfl ?_
      conv => whnf
      refine ASeq.go tab_ok mixed_ ?_
      conv => whnf
      refine XNeed.mk (of_decide_eq_true rfl) ?_
      conv => whnf
      refine ACalls.inn (c___pack_decoder__u_p (W.bindE h) (fun v h => ?_)) ⟨rfl, rfl⟩
      rcases v with v58 | v107
      · conv => whnf
        refine ALoop.unroll tab_ok mixed_ (kn := fun st => ALoop Try.prog tab _ _ _ _ st _) (fun _ h => h) ?_
        conv => whnf
        refine ASeq.go tab_ok mixed_ ?_
        conv => whnf
        refine XSplit.tt rfl ?_
        conv => whnf
        refine ASeq.go tab_ok mixed_ ?_
        conv => whnf
        refine XNeed.mk (of_decide_eq_true rfl) ?_
        conv => whnf
        refine ACalls.inn (c___pack_decoder__u_p (W.bindE h) (fun v h => ?_)) ⟨rfl, rfl⟩
        rcases v with v59 | v106
        · conv => whnf
          refine ALoop.unroll tab_ok mixed_ (kn := fun st => ALoop Try.prog tab _ _ _ _ st _) (fun _ h => h) ?_
          conv => whnf
          refine ASeq.go tab_ok mixed_ ?_
          conv => whnf
          refine XSplit.tt rfl ?_
          conv => whnf
          refine ASeq.go tab_ok mixed_ ?_
          conv => whnf
          refine XNeed.mk (of_decide_eq_true rfl) ?_
          conv => whnf
          refine ACalls.inn (c___pack_decoder__u_p (W.bindE h) (fun v h => ?_)) ⟨rfl, rfl⟩
          rcases v with v60 | v105
          · conv => whnf
            refine ALoop.unroll tab_ok mixed_ (kn := fun st => ALoop Try.prog tab _ _ _ _ st _) (fun _ h => h) ?_
            conv => whnf
            refine ASeq.go tab_ok mixed_ ?_
            conv => whnf
            refine XSplit.tt rfl ?_
            conv => whnf
            refine ASeq.go tab_ok mixed_ ?_
            conv => whnf
            refine XNeed.mk (of_decide_eq_true rfl) ?_
            conv => whnf
            refine ACalls.inn (c___pack_decoder__u_p (W.bindE h) (fun v h => ?_)) ⟨rfl, rfl⟩
            rcases v with v61 | v104
            · conv => whnf
              refine ALoop.unroll tab_ok mixed_ (kn := fun st => ALoop Try.prog tab _ _ _ _ st _) (fun _ h => h) ?_
              conv => whnf
              refine ASeq.go tab_ok mixed_ ?_
              conv => whnf
              refine XSplit.tt rfl ?_
              conv => whnf
              refine ASeq.go tab_ok mixed_ ?_
              conv => whnf
              refine XNeed.mk (of_decide_eq_true rfl) ?_
              conv => whnf
              refine ACalls.inn (c___pack_decoder__u_p (W.bindE h) (fun v h => ?_)) ⟨rfl, rfl⟩
              rcases v with v62 | v103
              · conv => whnf
                refine ALoop.unroll tab_ok mixed_ (kn := fun st => ALoop Try.prog tab _ _ _ _ st _) (fun _ h => h) ?_
                conv => whnf
                refine ASeq.go tab_ok mixed_ ?_
                conv => whnf
                refine XSplit.tt rfl ?_
                conv => whnf
                refine ASeq.go tab_ok mixed_ ?_
                conv => whnf
                refine XNeed.mk (of_decide_eq_true rfl) ?_
                conv => whnf
                refine ACalls.inn (c___pack_decoder__u_p (W.bindE h) (fun v h => ?_)) ⟨rfl, rfl⟩
                rcases v with v63 | v102
                · conv => whnf
                  refine ALoop.unroll tab_ok mixed_ (kn := fun st => ALoop Try.prog tab _ _ _ _ st _) (fun _ h => h) ?_
                  conv => whnf
                  refine ASeq.go tab_ok mixed_ ?_
                  conv => whnf
                  refine XSplit.tt rfl ?_
                  conv => whnf
                  refine ASeq.go tab_ok mixed_ ?_
                  conv => whnf
                  refine XNeed.mk (of_decide_eq_true rfl) ?_
                  conv => whnf
                  refine ACalls.inn (c___pack_decoder__u_p (W.bindE h) (fun v h => ?_)) ⟨rfl, rfl⟩
                  rcases v with v64 | v101
                  · conv => whnf
                    refine ALoop.unroll tab_ok mixed_ (kn := fun st => ALoop Try.prog tab _ _ _ _ st _) (fun _ h => h) ?_
                    conv => whnf
                    refine ASeq.go tab_ok mixed_ ?_
                    conv => whnf
                    refine XSplit.tt rfl ?_
                    conv => whnf
                    refine ASeq.go tab_ok mixed_ ?_
                    conv => whnf
                    refine XNeed.mk (of_decide_eq_true rfl) ?_
                    conv => whnf
                    refine ACalls.inn (c___pack_decoder__u_p (W.bindE h) (fun v h => ?_)) ⟨rfl, rfl⟩
                    rcases v with v65 | v100
                    · conv => whnf
                      refine ALoop.unroll tab_ok mixed_ (kn := fun st => ALoop Try.prog tab _ _ _ _ st _) (fun _ h => h) ?_
                      conv => whnf
                      refine ASeq.go tab_ok mixed_ ?_
                      conv => whnf
                      refine XSplit.tt rfl ?_
                      conv => whnf
                      refine ASeq.go tab_ok mixed_ ?_
                      conv => whnf
                      refine XNeed.mk (of_decide_eq_true rfl) ?_
                      conv => whnf
                      refine ACalls.inn (c___pack_decoder__u_p (W.bindE h) (fun v h => ?_)) ⟨rfl, rfl⟩
                      rcases v with v66 | v99
                      · conv => whnf
                        refine ALoop.unroll tab_ok mixed_ (kn := fun st => ALoop Try.prog tab _ _ _ _ st _) (fun _ h => h) ?_
                        conv => whnf
                        refine ASeq.go tab_ok mixed_ ?_
                        conv => whnf
                        refine XSplit.tt rfl ?_
                        conv => whnf
                        refine ASeq.go tab_ok mixed_ ?_
                        conv => whnf
                        refine XNeed.mk (of_decide_eq_true rfl) ?_
                        conv => whnf
                        refine ACalls.inn (c___pack_decoder__u_p (W.bindE h) (fun v h => ?_)) ⟨rfl, rfl⟩
                        rcases v with v67 | v98
                        · conv => whnf
                          refine ALoop.unroll tab_ok mixed_ (kn := fun st => ALoop Try.prog tab _ _ _ _ st _) (fun _ h => h) ?_
                          conv => whnf
                          refine ASeq.go tab_ok mixed_ ?_
                          conv => whnf
                          refine XSplit.ff rfl ?_
                          conv => whnf
                          refine ASeq.go tab_ok mixed_ ?_
                          conv => whnf
                          refine ACalls.inn (c___pack_decoder__n_p (W.bindE h) (fun v h => ?_)) ⟨rfl, rfl⟩
                          rcases v with v68 | v97
                          · conv => whnf
                            refine ALoop.ofWE tab_ok mixed_ (fun v69 => ⟨[(0, .ptr 0 0), (2, .ptr 3 0), (3, .ptr 4 0), (22, .int .i64 (v68.fst)), (23, .int .i64 (v69.fst))], [(0, .box 72 [.ptr 1 0, .int .i64 (a0)]), (1, .box 98 [.ptr 2 0, .int .i64 (v69.snd.fst)]), (2, .box 96 [.sl (a2) 5 (a3), .int .i64 (v69.snd.snd.fst)]), (3, .box 50 [.int .i64 (0), .int .i64 (0), .int .i64 (0), .int .i64 (0), .int .i64 (0), .int .i64 (0), .int .i64 (0), .int .i64 (0), .int .i64 (0), .int .i64 (0), .int .i64 (0), .int .i64 (0), .nils, .nils, .int .i64 (0), .int .i64 (0), .int .i64 (0), .int .i64 (0), .int .i64 (0), .int .i64 (0), .int .i64 (0), .int .i64 (0)]), (4, .box 50 [.int .i64 (v56.fst), .int .i64 (v57.fst), .int .i64 (v58.fst), .int .i64 (v59.fst), .int .i64 (v60.fst), .int .i64 (v61.fst), .int .i64 (v62.fst), .int .i64 (v63.fst), .int .i64 (v64.fst), .int .i64 (v65.fst), .int .i64 (v66.fst), .int .i64 (v67.fst), .own 5, .nils, .int .i64 (0), .int .i64 (0), .int .i64 (0), .int .i64 (0), .int .i64 (0), .int .i64 (0), .int .i64 (0), .int .i64 (0)]), (5, .arr true 51 (v69.snd.snd.snd.fst) (v69.snd.snd.snd.snd))], 6, [], []⟩) (fun v70 => (.exit 2, ⟨[(0, .ptr 0 0), (2, .ptr 3 0), (3, .ptr 4 0)], [(0, .box 72 [.ptr 1 0, .int .i64 (a0)]), (1, .box 98 [.ptr 2 0, .int .i64 (v70.fst)]), (2, .box 96 [.sl (a2) 5 (a3), .int .i64 (v70.snd.fst)]), (3, .box 50 [.int .i64 (0), .int .i64 (0), .int .i64 (0), .int .i64 (0), .int .i64 (0), .int .i64 (0), .int .i64 (0), .int .i64 (0), .int .i64 (0), .int .i64 (0), .int .i64 (0), .int .i64 (0), .nils, .nils, .int .i64 (0), .int .i64 (0), .int .i64 (0), .int .i64 (0), .int .i64 (0), .int .i64 (0), .int .i64 (0), .int .i64 (0)]), (4, .box 50 [.int .i64 (v56.fst), .int .i64 (v57.fst), .int .i64 (v58.fst), .int .i64 (v59.fst), .int .i64 (v60.fst), .int .i64 (v61.fst), .int .i64 (v62.fst), .int .i64 (v63.fst), .int .i64 (v64.fst), .int .i64 (v65.fst), .int .i64 (v66.fst), .int .i64 (v67.fst), .own 5, .nils, .int .i64 (0), .int .i64 (0), .int .i64 (0), .int .i64 (0), .int .i64 (0), .int .i64 (0), .int .i64 (0), .int .i64 (0)]), (5, .arr true 51 (v70.snd.snd.fst) (v70.snd.snd.snd))], 6, [], []⟩)) (W.bindE h) (Weak.a ?_) (fun v69 J_ Q hK0 h => ?_) (fun v70 h => ?_)
                            · conv => whnf
                              exact ⟨rfl, rfl, rfl, rfl, rfl⟩
                            · conv => whnf
                              refine ASeq.go tab_ok mixed_ ?_
                              conv => whnf
                              refine XSplit.mk (fun e => ?_) (fun e => ?_)
                              · replace h := XSplit.t h e
                                conv => whnf
                                refine ASeq.go tab_ok mixed_ ?_
                                conv => whnf
                                refine XDraw.d [0, 1, 2, 3, 4, 5, 6, 7, 8] [[], [], [], [0, 1, 2], [6], [], [5], [], [4]] (by decide +kernel) ?_
                                conv => whnf
                                refine ACalls.inn (c___pack_decoder__s_p (W.bindE h) (fun v h => ?_)) ⟨rfl, rfl⟩
                                rcases v with v71 | v72
                                · conv => whnf
                                  refine XNeed.mk (XNeed.c h) ?_; replace h := XNeed.x h
                                  conv => whnf
                                  refine ⟨_, Weak.a ?_, h⟩; (conv => whnf); exact ⟨rfl, rfl, rfl, rfl, rfl⟩
                                · conv => whnf
                                  refine ⟨_, Weak.a ?_, ?_, (hK0 _ h)⟩; (conv => whnf); exact ⟨rfl, rfl, rfl, rfl, rfl⟩; exact rfl
                              · replace h := XSplit.f h e
                                conv => whnf
                                refine ⟨_, ?_, Weak.a ?_, h⟩; exact rfl; (conv => whnf); exact ⟨rfl, rfl, rfl, rfl, rfl⟩
                            · conv => whnf
                              refine ASeq.go tab_ok mixed_ ?_
                              conv => whnf
                              refine ACalls.inn (c___pack_decoder__n_p (W.bindE h) (fun v h => ?_)) ⟨rfl, rfl⟩
                              rcases v with v73 | v96
                              · conv => whnf
                                refine ALoop.ofWE tab_ok mixed_ (fun v74 => ⟨[(0, .ptr 0 0), (2, .ptr 3 0), (3, .ptr 4 0), (35, .int .i64 (v73.fst)), (36, .int .i64 (v74.fst))], [(0, .box 72 [.ptr 1 0, .int .i64 (a0)]), (1, .box 98 [.ptr 2 0, .int .i64 (v74.snd.fst)]), (2, .box 96 [.sl (a2) 5 (a3), .int .i64 (v74.snd.snd.fst)]), (3, .box 50 [.int .i64 (0), .int .i64 (0), .int .i64 (0), .int .i64 (0), .int .i64 (0), .int .i64 (0), .int .i64 (0), .int .i64 (0), .int .i64 (0), .int .i64 (0), .int .i64 (0), .int .i64 (0), .nils, .nils, .int .i64 (0), .int .i64 (0), .int .i64 (0), .int .i64 (0), .int .i64 (0), .int .i64 (0), .int .i64 (0), .int .i64 (0)]), (4, .box 50 [.int .i64 (v56.fst), .int .i64 (v57.fst), .int .i64 (v58.fst), .int .i64 (v59.fst), .int .i64 (v60.fst), .int .i64 (v61.fst), .int .i64 (v62.fst), .int .i64 (v63.fst), .int .i64 (v64.fst), .int .i64 (v65.fst), .int .i64 (v66.fst), .int .i64 (v67.fst), .own 5, .own 6, .int .i64 (0), .int .i64 (0), .int .i64 (0), .int .i64 (0), .int .i64 (0), .int .i64 (0), .int .i64 (0), .int .i64 (0)]), (5, .arr true 51 (v70.snd.snd.fst) (v70.snd.snd.snd)), (6, .arr true 21 (v74.snd.snd.snd.fst) (v74.snd.snd.snd.snd))], 7, [], []⟩) (fun v75 => (.exit 4, ⟨[(0, .ptr 0 0), (2, .ptr 3 0), (3, .ptr 4 0)], [(0, .box 72 [.ptr 1 0, .int .i64 (a0)]), (1, .box 98 [.ptr 2 0, .int .i64 (v75.fst)]), (2, .box 96 [.sl (a2) 5 (a3), .int .i64 (v75.snd.fst)]), (3, .box 50 [.int .i64 (0), .int .i64 (0), .int .i64 (0), .int .i64 (0), .int .i64 (0), .int .i64 (0), .int .i64 (0), .int .i64 (0), .int .i64 (0), .int .i64 (0), .int .i64 (0), .int .i64 (0), .nils, .nils, .int .i64 (0), .int .i64 (0), .int .i64 (0), .int .i64 (0), .int .i64 (0), .int .i64 (0), .int .i64 (0), .int .i64 (0)]), (4, .box 50 [.int .i64 (v56.fst), .int .i64 (v57.fst), .int .i64 (v58.fst), .int .i64 (v59.fst), .int .i64 (v60.fst), .int .i64 (v61.fst), .int .i64 (v62.fst), .int .i64 (v63.fst), .int .i64 (v64.fst), .int .i64 (v65.fst), .int .i64 (v66.fst), .int .i64 (v67.fst), .own 5, .own 6, .int .i64 (0), .int .i64 (0), .int .i64 (0), .int .i64 (0), .int .i64 (0), .int .i64 (0), .int .i64 (0), .int .i64 (0)]), (5, .arr true 51 (v70.snd.snd.fst) (v70.snd.snd.snd)), (6, .arr true 21 (v75.snd.snd.fst) (v75.snd.snd.snd))], 7, [], []⟩)) (W.bindE h) (Weak.a ?_) (fun v74 J_ Q hK0 h => ?_) (fun v75 h => ?_)
                                · conv => whnf
                                  exact ⟨rfl, rfl, rfl, rfl, rfl⟩
                                · conv => whnf
                                  refine ASeq.go tab_ok mixed_ ?_
                                  conv => whnf
                                  refine XSplit.mk (fun e => ?_) (fun e => ?_)
                                  · replace h := XSplit.t h e
                                    conv => whnf
                                    refine ASeq.go tab_ok mixed_ ?_
                                    conv => whnf
                                    refine XDraw.d [0, 1, 2, 3, 4, 5, 6, 7, 8] [[], [], [], [0, 1, 2], [7], [], [6], [], [4]] (by decide +kernel) ?_
                                    conv => whnf
                                    refine ACalls.inn (c___pack_decoder__s32_p (W.bindE h) (fun v h => ?_)) ⟨rfl, rfl⟩
                                    rcases v with v76 | v77
                                    · conv => whnf
                                      refine XNeed.mk (XNeed.c h) ?_; replace h := XNeed.x h
                                      conv => whnf
                                      refine ⟨_, Weak.a ?_, h⟩; (conv => whnf); exact ⟨rfl, rfl, rfl, rfl, rfl⟩
                                    · conv => whnf
                                      refine ⟨_, Weak.a ?_, ?_, (hK0 _ h)⟩; (conv => whnf); exact ⟨rfl, rfl, rfl, rfl, rfl⟩; exact rfl
                                  · replace h := XSplit.f h e
                                    conv => whnf
                                    refine ⟨_, ?_, Weak.a ?_, h⟩; exact rfl; (conv => whnf); exact ⟨rfl, rfl, rfl, rfl, rfl⟩
                                · conv => whnf
                                  refine ASeq.go tab_ok mixed_ ?_
                                  conv => whnf
                                  refine ACalls.inn (c_pack_scales_p (W.bindE h) (fun v78 h => ?_)) ⟨rfl, rfl⟩
                                  conv => whnf
                                  refine ALoop.unroll tab_ok mixed_ (kn := fun st => ALoop Try.prog tab _ _ _ _ st _) (fun _ h => h) ?_
                                  conv => whnf
                                  refine ASeq.go tab_ok mixed_ ?_
                                  conv => whnf
                                  refine XSplit.tt rfl ?_
                                  conv => whnf
                                  refine ASeq.go tab_ok mixed_ ?_
                                  conv => whnf
                                  refine XNeed.mk (of_decide_eq_true rfl) ?_
                                  conv => whnf
                                  refine ACalls.inn (c___pack_decoder__u_p (W.bindE h) (fun v h => ?_)) ⟨rfl, rfl⟩
                                  rcases v with v79 | v95
                                  · conv => whnf
                                    refine ALoop.unroll tab_ok mixed_ (kn := fun st => ALoop Try.prog tab _ _ _ _ st _) (fun _ h => h) ?_
                                    conv => whnf
                                    refine ASeq.go tab_ok mixed_ ?_
                                    conv => whnf
                                    refine XSplit.tt rfl ?_
                                    conv => whnf
                                    refine ASeq.go tab_ok mixed_ ?_
                                    conv => whnf
                                    refine XNeed.mk (of_decide_eq_true rfl) ?_
                                    conv => whnf
                                    refine ACalls.inn (c___pack_decoder__u_p (W.bindE h) (fun v h => ?_)) ⟨rfl, rfl⟩
                                    rcases v with v80 | v94
                                    · conv => whnf
                                      refine ALoop.unroll tab_ok mixed_ (kn := fun st => ALoop Try.prog tab _ _ _ _ st _) (fun _ h => h) ?_
                                      conv => whnf
                                      refine ASeq.go tab_ok mixed_ ?_
                                      conv => whnf
                                      refine XSplit.tt rfl ?_
                                      conv => whnf
                                      refine ASeq.go tab_ok mixed_ ?_
                                      conv => whnf
                                      refine XNeed.mk (of_decide_eq_true rfl) ?_
                                      conv => whnf
                                      refine ACalls.inn (c___pack_decoder__u_p (W.bindE h) (fun v h => ?_)) ⟨rfl, rfl⟩
                                      rcases v with v81 | v93
                                      · conv => whnf
                                        refine ALoop.unroll tab_ok mixed_ (kn := fun st => ALoop Try.prog tab _ _ _ _ st _) (fun _ h => h) ?_
                                        conv => whnf
                                        refine ASeq.go tab_ok mixed_ ?_
                                        conv => whnf
                                        refine XSplit.tt rfl ?_
                                        conv => whnf
                                        refine ASeq.go tab_ok mixed_ ?_
                                        conv => whnf
                                        refine XNeed.mk (of_decide_eq_true rfl) ?_
                                        conv => whnf
                                        refine ACalls.inn (c___pack_decoder__u_p (W.bindE h) (fun v h => ?_)) ⟨rfl, rfl⟩
                                        rcases v with v82 | v92
                                        · conv => whnf
                                          refine ALoop.unroll tab_ok mixed_ (kn := fun st => ALoop Try.prog tab _ _ _ _ st _) (fun _ h => h) ?_
                                          conv => whnf
                                          refine ASeq.go tab_ok mixed_ ?_
                                          conv => whnf
                                          refine XSplit.ff rfl ?_
                                          conv => whnf
                                          refine ASeq.go tab_ok mixed_ ?_
                                          conv => whnf
                                          refine ACalls.inn (c_pack_ends_p (W.bindE h) (fun v83 h => ?_)) ⟨rfl, rfl⟩
                                          conv => whnf
                                          refine ALoop.unroll tab_ok mixed_ (kn := fun st => ALoop Try.prog tab _ _ _ _ st _) (fun _ h => h) ?_
                                          conv => whnf
                                          refine ASeq.go tab_ok mixed_ ?_
                                          conv => whnf
                                          refine XSplit.tt rfl ?_
                                          conv => whnf
                                          refine ASeq.go tab_ok mixed_ ?_
                                          conv => whnf
                                          refine XNeed.mk (of_decide_eq_true rfl) ?_
                                          conv => whnf
                                          refine ACalls.inn (c___pack_decoder__s32_p (W.bindE h) (fun v h => ?_)) ⟨rfl, rfl⟩
                                          rcases v with v84 | v91
                                          · conv => whnf
                                            refine ALoop.unroll tab_ok mixed_ (kn := fun st => ALoop Try.prog tab _ _ _ _ st _) (fun _ h => h) ?_
                                            conv => whnf
                                            refine ASeq.go tab_ok mixed_ ?_
                                            conv => whnf
                                            refine XSplit.tt rfl ?_
                                            conv => whnf
                                            refine ASeq.go tab_ok mixed_ ?_
                                            conv => whnf
                                            refine XNeed.mk (of_decide_eq_true rfl) ?_
                                            conv => whnf
                                            refine ACalls.inn (c___pack_decoder__s32_p (W.bindE h) (fun v h => ?_)) ⟨rfl, rfl⟩
                                            rcases v with v85 | v90
                                            · conv => whnf
                                              refine ALoop.unroll tab_ok mixed_ (kn := fun st => ALoop Try.prog tab _ _ _ _ st _) (fun _ h => h) ?_
                                              conv => whnf
                                              refine ASeq.go tab_ok mixed_ ?_
                                              conv => whnf
                                              refine XSplit.tt rfl ?_
                                              conv => whnf
                                              refine ASeq.go tab_ok mixed_ ?_
                                              conv => whnf
                                              refine XNeed.mk (of_decide_eq_true rfl) ?_
                                              conv => whnf
                                              refine ACalls.inn (c___pack_decoder__s32_p (W.bindE h) (fun v h => ?_)) ⟨rfl, rfl⟩
                                              rcases v with v86 | v89
                                              · conv => whnf
                                                refine ALoop.unroll tab_ok mixed_ (kn := fun st => ALoop Try.prog tab _ _ _ _ st _) (fun _ h => h) ?_
                                                conv => whnf
                                                refine ASeq.go tab_ok mixed_ ?_
                                                conv => whnf
                                                refine XSplit.tt rfl ?_
                                                conv => whnf
                                                refine ASeq.go tab_ok mixed_ ?_
                                                conv => whnf
                                                refine XNeed.mk (of_decide_eq_true rfl) ?_
                                                conv => whnf
                                                refine ACalls.inn (c___pack_decoder__s32_p (W.bindE h) (fun v h => ?_)) ⟨rfl, rfl⟩
                                                rcases v with v87 | v88
                                                · conv => whnf
                                                  refine ALoop.unroll tab_ok mixed_ (kn := fun st => ALoop Try.prog tab _ _ _ _ st _) (fun _ h => h) ?_
                                                  conv => whnf
                                                  refine ASeq.go tab_ok mixed_ ?_
                                                  conv => whnf
                                                  refine XSplit.ff rfl ?_
                                                  conv => whnf
                                                  refine ⟨_, Weak.a ?_, ?_, h⟩; (conv => whnf); exact ⟨rfl, rfl, rfl, rfl, rfl⟩; exact rfl
                                                · conv => whnf
                                                  refine ⟨_, Weak.a ?_, ?_, h⟩; (conv => whnf); exact ⟨rfl, rfl, rfl, rfl, rfl⟩; exact rfl
                                              · conv => whnf
                                                refine ⟨_, Weak.a ?_, ?_, h⟩; (conv => whnf); exact ⟨rfl, rfl, rfl, rfl, rfl⟩; exact rfl
                                            · conv => whnf
                                              refine ⟨_, Weak.a ?_, ?_, h⟩; (conv => whnf); exact ⟨rfl, rfl, rfl, rfl, rfl⟩; exact rfl
                                          · conv => whnf
                                            refine ⟨_, Weak.a ?_, ?_, h⟩; (conv => whnf); exact ⟨rfl, rfl, rfl, rfl, rfl⟩; exact rfl
                                        · conv => whnf
                                          refine ⟨_, Weak.a ?_, ?_, h⟩; (conv => whnf); exact ⟨rfl, rfl, rfl, rfl, rfl⟩; exact rfl
                                      · conv => whnf
                                        refine ⟨_, Weak.a ?_, ?_, h⟩; (conv => whnf); exact ⟨rfl, rfl, rfl, rfl, rfl⟩; exact rfl
                                    · conv => whnf
                                      refine ⟨_, Weak.a ?_, ?_, h⟩; (conv => whnf); exact ⟨rfl, rfl, rfl, rfl, rfl⟩; exact rfl
                                  · conv => whnf
                                    refine ⟨_, Weak.a ?_, ?_, h⟩; (conv => whnf); exact ⟨rfl, rfl, rfl, rfl, rfl⟩; exact rfl
                              · conv => whnf
                                refine ⟨_, Weak.a ?_, ?_, h⟩; (conv => whnf); exact ⟨rfl, rfl, rfl, rfl, rfl⟩; exact rfl
                          · conv => whnf
                            refine ⟨_, Weak.a ?_, ?_, h⟩; (conv => whnf); exact ⟨rfl, rfl, rfl, rfl, rfl⟩; exact rfl
                        · conv => whnf
                          refine ⟨_, Weak.a ?_, ?_, h⟩; (conv => whnf); exact ⟨rfl, rfl, rfl, rfl, rfl⟩; exact rfl
                      · conv => whnf
                        refine ⟨_, Weak.a ?_, ?_, h⟩; (conv => whnf); exact ⟨rfl, rfl, rfl, rfl, rfl⟩; exact rfl
                    · conv => whnf
                      refine ⟨_, Weak.a ?_, ?_, h⟩; (conv => whnf); exact ⟨rfl, rfl, rfl, rfl, rfl⟩; exact rfl
                  · conv => whnf
                    refine ⟨_, Weak.a ?_, ?_, h⟩; (conv => whnf); exact ⟨rfl, rfl, rfl, rfl, rfl⟩; exact rfl
                · conv => whnf
                  refine ⟨_, Weak.a ?_, ?_, h⟩; (conv => whnf); exact ⟨rfl, rfl, rfl, rfl, rfl⟩; exact rfl
              · conv => whnf
                refine ⟨_, Weak.a ?_, ?_, h⟩; (conv => whnf); exact ⟨rfl, rfl, rfl, rfl, rfl⟩; exact rfl
            · conv => whnf
              refine ⟨_, Weak.a ?_, ?_, h⟩; (conv => whnf); exact ⟨rfl, rfl, rfl, rfl, rfl⟩; exact rfl
          · conv => whnf
            refine ⟨_, Weak.a ?_, ?_, h⟩; (conv => whnf); exact ⟨rfl, rfl, rfl, rfl, rfl⟩; exact rfl
        · conv => whnf
          refine ⟨_, Weak.a ?_, ?_, h⟩; (conv => whnf); exact ⟨rfl, rfl, rfl, rfl, rfl⟩; exact rfl
      · conv => whnf
        refine ⟨_, Weak.a ?_, ?_, h⟩; (conv => whnf); exact ⟨rfl, rfl, rfl, rfl, rfl⟩; exact rfl
    · conv => whnf
      refine ⟨_, Weak.a ?_, ?_, h⟩; (conv => whnf); exact ⟨rfl, rfl, rfl, rfl, rfl⟩; exact rfl
  · conv => whnf
    refine ⟨_, Weak.a ?_, ?_, h⟩; (conv => whnf); exact ⟨rfl, rfl, rfl, rfl, rfl⟩; exact rfl

theorem c___wire_cursor__Left_p {a0 : Bool} {a1 : Rws} {a2 : Int} {Q : Int → Prop} {R : AV → List AB → Prop} (h : (g___wire_cursor__Left_p a0 a1 a2).run Q) (k : ∀ r, Q r → R (.int .i64 (r)) ([.box 96 [.sl (a0) 5 (a1), .int .i64 (a2)]])) : ACalls Try.prog tab 75 [.ptr 0 0] [.box 96 [.sl (a0) 5 (a1), .int .i64 (a2)]] R := by
  refine ACalls.out (fun r => .int .i64 (r)) (fun r => [.box 96 [.sl (a0) 5 (a1), .int .i64 (a2)]]) (Q := Q) (ACalls.introX (mv := mv) tab_ok mixed_ (fn := Try.f75) (by kernel_rfl) rfl (by kernel_rfl) (by kernel_rfl) (Nat.le_of_ble_eq_true rfl) ?_) (fun v => by first | exact ⟨rfl, Nat.le_of_ble_eq_true rfl⟩ | (cases v <;> exact ⟨rfl, Nat.le_of_ble_eq_true rfl⟩)) k
  conv => whnf
  refine ASeq.go tab_ok mixed_ ?_
  conv => whnf
  refine XSplit.ff rfl ?_
  conv => whnf
  refine XDraw.q [0, 1, 2, 3, 4, 5, 6, 7, 8, 9, 10] (by decide +kernel) ?_
  conv => whnf
  refine ⟨_, Weak.a ?_, ?_, h⟩; (conv => whnf); exact ⟨rfl, rfl, rfl, rfl, rfl⟩; exact rfl

theorem c___wire_Reader__Left_p {a0 : Int} {a1 : Bool} {a2 : Rws} {a3 : Int} {Q : Int → Prop} {R : AV → List AB → Prop} (h : (g___wire_Reader__Left_p a0 a1 a2 a3).run Q) (k : ∀ r, Q r → R (.int .i64 (r)) ([.box 98 [.ptr 1 0, .int .i64 (a0)], .box 96 [.sl (a1) 5 (a2), .int .i64 (a3)]])) : ACalls Try.prog tab 56 [.ptr 0 0] [.box 98 [.ptr 1 0, .int .i64 (a0)], .box 96 [.sl (a1) 5 (a2), .int .i64 (a3)]] R := by
  refine ACalls.out (fun r => .int .i64 (r)) (fun r => [.box 98 [.ptr 1 0, .int .i64 (a0)], .box 96 [.sl (a1) 5 (a2), .int .i64 (a3)]]) (Q := Q) (ACalls.introX (mv := mv) tab_ok mixed_ (fn := Try.f56) (by kernel_rfl) rfl (by kernel_rfl) (by kernel_rfl) (Nat.le_of_ble_eq_true rfl) ?_) (fun v => by first | exact ⟨rfl, Nat.le_of_ble_eq_true rfl⟩ | (cases v <;> exact ⟨rfl, Nat.le_of_ble_eq_true rfl⟩)) k
  conv => whnf
  refine ASeq.go tab_ok mixed_ ?_
  conv => whnf
  refine XSplit.ff rfl ?_
  conv => whnf
  refine ACalls.inn (c___wire_cursor__Left_p (W.bindE h) (fun v1 h => ?_)) ⟨rfl, rfl⟩
  conv => whnf
  refine ⟨_, Weak.a ?_, ?_, h⟩; (conv => whnf); exact ⟨rfl, rfl, rfl, rfl, rfl⟩; exact rfl

theorem c___wire_Reader__End_p {a0 : Int} {a1 : Bool} {a2 : Rws} {a3 : Int} {Q : Int → Prop} {R : AV → List AB → Prop} (h : (g___wire_Reader__End_p a0 a1 a2 a3).run Q) (k : ∀ r, Q r → R (.int .i64 (r)) ([.box 98 [.ptr 1 0, .int .i64 (a0)], .box 96 [.sl (a1) 5 (a2), .int .i64 (a3)]])) : ACalls Try.prog tab 37 [.ptr 0 0] [.box 98 [.ptr 1 0, .int .i64 (a0)], .box 96 [.sl (a1) 5 (a2), .int .i64 (a3)]] R := by
  refine ACalls.out (fun r => .int .i64 (r)) (fun r => [.box 98 [.ptr 1 0, .int .i64 (a0)], .box 96 [.sl (a1) 5 (a2), .int .i64 (a3)]]) (Q := Q) (ACalls.introX (mv := mv) tab_ok mixed_ (fn := Try.f37) (by kernel_rfl) rfl (by kernel_rfl) (by kernel_rfl) (Nat.le_of_ble_eq_true rfl) ?_) (fun v => by first | exact ⟨rfl, Nat.le_of_ble_eq_true rfl⟩ | (cases v <;> exact ⟨rfl, Nat.le_of_ble_eq_true rfl⟩)) k
  conv => whnf
  refine ASeq.go tab_ok mixed_ ?_
  conv => whnf
  refine ACalls.inn (c___wire_Reader__Err_p (W.bindE h) (fun v3 h => ?_)) ⟨rfl, rfl⟩
  conv => whnf
  refine ASeq.joinW tab_ok mixed_ (fun v4 => ⟨[(2, .int .i64 (0)), (3, .int .i64 (v3)), (12, .bool (v4))], [(0, .box 98 [.ptr 1 0, .int .i64 (a0)]), (1, .box 96 [.sl (a1) 5 (a2), .int .i64 (a3)])], 2, [], []⟩) h (fun Q h => ?_) (fun v4 h => ?_)
  · conv => whnf
    refine XSplit.mk (fun e => ?_) (fun e => ?_)
    · replace h := XSplit.t h e
      conv => whnf
      refine ⟨_, Weak.a ?_, h⟩; (conv => whnf); exact ⟨rfl, rfl, rfl, rfl, rfl⟩
    · replace h := XSplit.f h e
      conv => whnf
      refine ACalls.inn (c___wire_Reader__Left_p (W.bindE h) (fun v5 h => ?_)) ⟨rfl, rfl⟩
      conv => whnf
      refine ⟨_, Weak.a ?_, h⟩; (conv => whnf); exact ⟨rfl, rfl, rfl, rfl, rfl⟩
  · conv => whnf
    refine XSplit.mk (fun e => ?_) (fun e => ?_)
    · replace h := XSplit.t h e
      conv => whnf
      refine ⟨_, Weak.a ?_, ?_, h⟩; (conv => whnf); exact ⟨rfl, rfl, rfl, rfl, rfl⟩; exact rfl
    · replace h := XSplit.f h e
      conv => whnf
      refine ⟨_, Weak.a ?_, ?_, h⟩; (conv => whnf); exact ⟨rfl, rfl, rfl, rfl, rfl⟩; exact rfl

theorem c_pack_Decode {a0 : Bool} {a1 : Rws} {Q : Int × Int × Int × Int × Int × Int × Int × Int × Int × Bool × Rws → Prop} {R : AV → List AB → Prop} (h : (g_pack_Decode a0 a1).run Q) (k : ∀ r, Q r → R (.tup [.agg [.int .i64 (r.fst), .int .i64 (r.snd.fst), .int .i64 (r.snd.snd.fst), .int .i64 (r.snd.snd.snd.fst), .int .i64 (r.snd.snd.snd.snd.fst), .own 0, .int .i64 (r.snd.snd.snd.snd.snd.fst)], .agg [.int .i64 (r.snd.snd.snd.snd.snd.snd.fst), .int .i64 (r.snd.snd.snd.snd.snd.snd.snd.fst), .int .i64 (r.snd.snd.snd.snd.snd.snd.snd.snd.fst)]]) ([.arr true 50 (r.snd.snd.snd.snd.snd.snd.snd.snd.snd.fst) (r.snd.snd.snd.snd.snd.snd.snd.snd.snd.snd)])) : ACalls Try.prog tab 15 [.sl (a0) 5 (a1)] [] R := by
  refine ACalls.out (fun r => .tup [.agg [.int .i64 (r.fst), .int .i64 (r.snd.fst), .int .i64 (r.snd.snd.fst), .int .i64 (r.snd.snd.snd.fst), .int .i64 (r.snd.snd.snd.snd.fst), .own 0, .int .i64 (r.snd.snd.snd.snd.snd.fst)], .agg [.int .i64 (r.snd.snd.snd.snd.snd.snd.fst), .int .i64 (r.snd.snd.snd.snd.snd.snd.snd.fst), .int .i64 (r.snd.snd.snd.snd.snd.snd.snd.snd.fst)]]) (fun r => [.arr true 50 (r.snd.snd.snd.snd.snd.snd.snd.snd.snd.fst) (r.snd.snd.snd.snd.snd.snd.snd.snd.snd.snd)]) (Q := Q) (ACalls.introD (mv := mv) tab_ok mixed_ 2 [2, 3] (f2 := 30) (fn := Try.f15) (fn2 := Try.f30) (by kernel_rfl) rfl (by kernel_rfl) rfl rfl rfl rfl rfl rfl rfl (by kernel_rfl) rfl (by kernel_rfl) rfl rfl rfl rfl rfl rfl (by kernel_rfl) (by kernel_rfl) (fun _ => by kernel_rfl) (by decide) (by kernel_rfl) (by kernel_rfl) (Nat.le_of_ble_eq_true rfl) (Nat.le_of_ble_eq_true rfl) ?_) (fun v => by first | exact ⟨rfl, Nat.le_of_ble_eq_true rfl⟩ | (cases v <;> exact ⟨rfl, Nat.le_of_ble_eq_true rfl⟩)) k
  conv => whnf
  refine ASeq.go tab_ok mixed_ ?_
  conv => whnf
  refine XSplit.mk (fun e => ?_) (fun e => ?_)
  · replace h := XSplit.t h e
    conv => whnf
    refine ACalls.inn (c___pack_decoder__giveUp_p (W.bindE h) (fun v24 h => ?_)) ⟨rfl, rfl⟩
    conv => whnf
    refine XDraw.d [0, 1, 2, 3, 4] [[], [], [], [0], [1]] (by decide +kernel) ?_
    conv => whnf
    refine ⟨_, Weak.a ?_, ?_, h⟩; (conv => whnf); exact ⟨rfl, rfl, rfl, rfl, rfl⟩; exact rfl
  · replace h := XSplit.f h e
    conv => whnf
    refine ASeq.go tab_ok mixed_ ?_
    conv => whnf
    refine XNeed.mk (XNeed.c h) ?_; replace h := XNeed.x h
    conv => whnf
    refine XSplit.mk (fun e => ?_) (fun e => ?_)
    · replace h := XSplit.t h e
      conv => whnf
      refine ACalls.inn (c___pack_decoder__giveUp_p (W.bindE h) (fun v25 h => ?_)) ⟨rfl, rfl⟩
      conv => whnf
      refine XDraw.d [0, 1, 2, 3, 4] [[], [], [], [0], [1]] (by decide +kernel) ?_
      conv => whnf
      refine ⟨_, Weak.a ?_, ?_, h⟩; (conv => whnf); exact ⟨rfl, rfl, rfl, rfl, rfl⟩; exact rfl
    · replace h := XSplit.f h e
      conv => whnf
      refine XNeed.mk (XNeed.c h) ?_; replace h := XNeed.x h
      conv => whnf
      refine ACalls.inn (c_wire_New (W.bindE h) (fun v26 h => ?_)) ⟨rfl, rfl⟩
      conv => whnf
      refine ACalls.inn (c___pack_decoder__u_p (W.bindE h) (fun v h => ?_)) ⟨rfl, rfl⟩
      rcases v with v27 | v47
      · conv => whnf
        refine ACalls.inn (c___pack_decoder__u_p (W.bindE h) (fun v h => ?_)) ⟨rfl, rfl⟩
        rcases v with v28 | v46
        · conv => whnf
          refine ACalls.inn (c___pack_decoder__u_p (W.bindE h) (fun v h => ?_)) ⟨rfl, rfl⟩
          rcases v with v29 | v45
          · conv => whnf
            refine ACalls.inn (c___pack_decoder__s32_p (W.bindE h) (fun v h => ?_)) ⟨rfl, rfl⟩
            rcases v with v30 | v44
            · conv => whnf
              refine ACalls.inn (c___pack_decoder__s32_p (W.bindE h) (fun v h => ?_)) ⟨rfl, rfl⟩
              rcases v with v31 | v43
              · conv => whnf
                refine ASeq.go tab_ok mixed_ ?_
                conv => whnf
                refine ACalls.inn (c___pack_decoder__n_p (W.bindE h) (fun v h => ?_)) ⟨rfl, rfl⟩
                rcases v with v32 | v42
                · conv => whnf
                  refine ALoop.ofWE tab_ok mixed_ (fun v33 => ⟨[(0, .sl (a0) 5 (a1)), (2, .ptr 0 0), (3, .ptr 1 0), (4, .ptr 2 0), (8, .fn 30 [] [.ptr 0 0, .ptr 1 0]), (9, .agg [.nilp, .int .i64 (0)]), (10, .ptr 2 0), (11, .sl (a0) 5 (a1)), (12, .int .i64 ((↑(List.length a1) : Int))), (43, .int .i64 (v32.fst)), (44, .int .i64 (v33.fst))], [(0, .box 26 [.int .i64 (v27.fst), .int .i64 (v28.fst), .int .i64 (v29.fst), .int .i64 (v30.fst), .int .i64 (v31.fst), .own 3, .int .i64 (0)]), (1, .box 31 [.int .i64 (0), .int .i64 (0), .int .i64 (0)]), (2, .box 72 [.ptr 4 0, .int .i64 (v33.snd.fst)]), (3, .arr true 50 (v33.snd.snd.fst) (v33.snd.snd.snd.fst)), (4, .box 98 [.ptr 5 0, .int .i64 (v33.snd.snd.snd.snd.fst)]), (5, .box 96 [.sl (v26.snd.snd.fst) 5 (v26.snd.snd.snd), .int .i64 (v33.snd.snd.snd.snd.snd)])], 6, [], []⟩) (fun v34 => (.exit 0, ⟨[(0, .sl (a0) 5 (a1)), (2, .ptr 0 0), (3, .ptr 1 0), (4, .ptr 2 0), (8, .fn 30 [] [.ptr 0 0, .ptr 1 0]), (9, .agg [.nilp, .int .i64 (0)]), (10, .ptr 2 0), (11, .sl (a0) 5 (a1)), (12, .int .i64 ((↑(List.length a1) : Int)))], [(0, .box 26 [.int .i64 (v27.fst), .int .i64 (v28.fst), .int .i64 (v29.fst), .int .i64 (v30.fst), .int .i64 (v31.fst), .own 3, .int .i64 (0)]), (1, .box 31 [.int .i64 (0), .int .i64 (0), .int .i64 (0)]), (2, .box 72 [.ptr 4 0, .int .i64 (v34.fst)]), (3, .arr true 50 (v34.snd.fst) (v34.snd.snd.fst)), (4, .box 98 [.ptr 5 0, .int .i64 (v34.snd.snd.snd.fst)]), (5, .box 96 [.sl (v26.snd.snd.fst) 5 (v26.snd.snd.snd), .int .i64 (v34.snd.snd.snd.snd)])], 6, [], []⟩)) (W.bindE h) (Weak.a ?_) (fun v33 J_ Q hK0 h => ?_) (fun v34 h => ?_)
                  · conv => whnf
                    exact ⟨rfl, rfl, rfl, rfl, rfl⟩
                  · conv => whnf
                    refine ASeq.go tab_ok mixed_ ?_
                    conv => whnf
                    refine XSplit.mk (fun e => ?_) (fun e => ?_)
                    · replace h := XSplit.t h e
                      conv => whnf
                      refine ASeq.go tab_ok mixed_ ?_
                      conv => whnf
                      refine XDraw.d [0, 1, 2, 3, 4, 5, 6, 7] [[], [], [], [2, 4, 5], [], [3], [], [0]] (by decide +kernel) ?_
                      conv => whnf
                      refine ACalls.inn (c___pack_decoder__one_p (W.bindE h) (fun v h => ?_)) ⟨rfl, rfl⟩
                      rcases v with v35 | v36
                      · conv => whnf
                        refine XNeed.mk (XNeed.c h) ?_; replace h := XNeed.x h
                        conv => whnf
                        refine ⟨_, Weak.a ?_, h⟩; (conv => whnf); exact ⟨rfl, rfl, rfl, rfl, rfl⟩
                      · conv => whnf
                        refine XDraw.d [0, 1, 2, 3, 4] [[], [], [], [0], [1]] (by decide +kernel) ?_
                        conv => whnf
                        refine ⟨_, Weak.a ?_, ?_, (hK0 _ h)⟩; (conv => whnf); exact ⟨rfl, rfl, rfl, rfl, rfl⟩; exact rfl
                    · replace h := XSplit.f h e
                      conv => whnf
                      refine ⟨_, ?_, Weak.a ?_, h⟩; exact rfl; (conv => whnf); exact ⟨rfl, rfl, rfl, rfl, rfl⟩
                  · conv => whnf
                    refine ACalls.inn (c___pack_decoder__u_p (W.bindE h) (fun v h => ?_)) ⟨rfl, rfl⟩
                    rcases v with v37 | v41
                    · conv => whnf
                      refine ASeq.go tab_ok mixed_ ?_
                      conv => whnf
                      refine ACalls.inn (c___wire_Reader__End_p (W.bindE h) (fun v38 h => ?_)) ⟨rfl, rfl⟩
                      conv => whnf
                      refine XSplit.mk (fun e => ?_) (fun e => ?_)
                      · replace h := XSplit.t h e
                        conv => whnf
                        refine ACalls.inn (c___pack_decoder__giveUp_p_2 (W.bindE h) (fun v39 h => ?_)) ⟨rfl, rfl⟩
                        conv => whnf
                        refine XDraw.d [0, 1, 2, 3, 4] [[], [], [], [0], [1]] (by decide +kernel) ?_
                        conv => whnf
                        refine ⟨_, Weak.a ?_, ?_, h⟩; (conv => whnf); exact ⟨rfl, rfl, rfl, rfl, rfl⟩; exact rfl
                      · replace h := XSplit.f h e
                        conv => whnf
                        refine ASeq.go tab_ok mixed_ ?_
                        conv => whnf
                        refine ACalls.inn (c_model_Check (W.bindE h) (fun v40 h => ?_)) ⟨rfl, rfl⟩
                        conv => whnf
                        refine XSplit.mk (fun e => ?_) (fun e => ?_)
                        · replace h := XSplit.t h e
                          conv => whnf
                          refine XDraw.d [0, 1, 2, 3] [[], [], [0], [1]] (by decide +kernel) ?_
                          conv => whnf
                          refine ⟨_, Weak.a ?_, ?_, h⟩; (conv => whnf); exact ⟨rfl, rfl, rfl, rfl, rfl⟩; exact rfl
                        · replace h := XSplit.f h e
                          conv => whnf
                          refine ⟨_, Weak.a ?_, ?_, h⟩; (conv => whnf); exact ⟨rfl, rfl, rfl, rfl, rfl⟩; exact rfl
                    · conv => whnf
                      refine XDraw.d [0, 1, 2, 3, 4] [[], [], [], [0], [1]] (by decide +kernel) ?_
                      conv => whnf
                      refine ⟨_, Weak.a ?_, ?_, h⟩; (conv => whnf); exact ⟨rfl, rfl, rfl, rfl, rfl⟩; exact rfl
                · conv => whnf
                  refine XDraw.d [0, 1, 2, 3, 4] [[], [], [], [0], [1]] (by decide +kernel) ?_
                  conv => whnf
                  refine ⟨_, Weak.a ?_, ?_, h⟩; (conv => whnf); exact ⟨rfl, rfl, rfl, rfl, rfl⟩; exact rfl
              · conv => whnf
                refine XDraw.d [0, 1, 2, 3, 4] [[], [], [], [0], [1]] (by decide +kernel) ?_
                conv => whnf
                refine ⟨_, Weak.a ?_, ?_, h⟩; (conv => whnf); exact ⟨rfl, rfl, rfl, rfl, rfl⟩; exact rfl
            · conv => whnf
              refine XDraw.d [0, 1, 2, 3, 4] [[], [], [], [0], [1]] (by decide +kernel) ?_
              conv => whnf
              refine ⟨_, Weak.a ?_, ?_, h⟩; (conv => whnf); exact ⟨rfl, rfl, rfl, rfl, rfl⟩; exact rfl
          · conv => whnf
            refine XDraw.d [0, 1, 2, 3, 4] [[], [], [], [0], [1]] (by decide +kernel) ?_
            conv => whnf
            refine ⟨_, Weak.a ?_, ?_, h⟩; (conv => whnf); exact ⟨rfl, rfl, rfl, rfl, rfl⟩; exact rfl
        · conv => whnf
          refine XDraw.d [0, 1, 2, 3, 4] [[], [], [], [0], [1]] (by decide +kernel) ?_
          conv => whnf
          refine ⟨_, Weak.a ?_, ?_, h⟩; (conv => whnf); exact ⟨rfl, rfl, rfl, rfl, rfl⟩; exact rfl
      · conv => whnf
        refine XDraw.d [0, 1, 2, 3, 4] [[], [], [], [0], [1]] (by decide +kernel) ?_
        conv => whnf
        refine ⟨_, Weak.a ?_, ?_, h⟩; (conv => whnf); exact ⟨rfl, rfl, rfl, rfl, rfl⟩; exact rfl

theorem c_law09_same {a0 : Bool} {a1 : Rws} {a2 : Bool} {a3 : Rws} {Q : Bool → Prop} {R : AV → List AB → Prop} (h : (g_law09_same a0 a1 a2 a3).run Q) (k : ∀ r, Q r → R (.bool (r)) ([])) : ACalls Try.prog tab 13 [.sl (a0) 5 (a1), .sl (a2) 5 (a3)] [] R := by
  refine ACalls.out (fun r => .bool (r)) (fun r => []) (Q := Q) (ACalls.introX (mv := mv) tab_ok mixed_ (fn := Try.f13) (by kernel_rfl) rfl (by kernel_rfl) (by kernel_rfl) (Nat.le_of_ble_eq_true rfl) ?_) (fun v => by first | exact ⟨rfl, Nat.le_of_ble_eq_true rfl⟩ | (cases v <;> exact ⟨rfl, Nat.le_of_ble_eq_true rfl⟩)) k
  conv => whnf
  refine ASeq.go tab_ok mixed_ ?_
  conv => whnf
  refine XSplit.mk (fun e => ?_) (fun e => ?_)
  · replace h := XSplit.t h e
    conv => whnf
    refine ⟨_, Weak.a ?_, ?_, h⟩; (conv => whnf); exact ⟨rfl, rfl, rfl, rfl, rfl⟩; exact rfl
  · replace h := XSplit.f h e
    conv => whnf
    refine ASeq.go tab_ok mixed_ ?_
    conv => whnf
    refine ALoop.ofW tab_ok mixed_ (fun v3 => ⟨[(0, .sl (a0) 5 (a1)), (1, .sl (a2) 5 (a3)), (4, .kb false), (12, .int .i64 ((↑(List.length a1) : Int))), (13, .int .i64 (v3))], [], 0, [], []⟩) (sx (fun v4 => (.ret, ⟨[(4, .kb false)], [], 0, [], []⟩)) (fun v5 => (.exit 0, ⟨[(4, .kb false)], [], 0, [], []⟩))) (W.bindE h) (Weak.a ?_) (fun v3 J_ Q h => ?_) (fun v h => ?_)
    · conv => whnf
      exact ⟨rfl, rfl, rfl, rfl, rfl⟩
    · conv => whnf
      refine ASeq.go tab_ok mixed_ ?_
      conv => whnf
      refine XSplit.mk (fun e => ?_) (fun e => ?_)
      · replace h := XSplit.t h e
        conv => whnf
        refine ASeq.go tab_ok mixed_ ?_
        conv => whnf
        refine XDraw.q [0, 1, 2, 3, 4, 5, 6, 7, 8] (by decide +kernel) ?_
        conv => whnf
        refine XNeed.mk (XNeed.c h) ?_; replace h := XNeed.x h
        conv => whnf
        refine XNeed.mk (XNeed.c h) ?_; replace h := XNeed.x h
        conv => whnf
        refine XSplit.mk (fun e => ?_) (fun e => ?_)
        · replace h := XSplit.t h e
          conv => whnf
          refine ⟨_, ?_, Weak.a ?_, h⟩; exact rfl; (conv => whnf); exact ⟨rfl, rfl, rfl, rfl, rfl⟩
        · replace h := XSplit.f h e
          conv => whnf
          refine ⟨_, Weak.a ?_, h⟩; (conv => whnf); exact ⟨rfl, rfl, rfl, rfl, rfl⟩
      · replace h := XSplit.f h e
        conv => whnf
        refine ⟨_, ?_, Weak.a ?_, h⟩; exact rfl; (conv => whnf); exact ⟨rfl, rfl, rfl, rfl, rfl⟩
    · rcases v with v4 | v5
      · conv => whnf
        refine ⟨_, Weak.a ?_, ?_, h⟩; (conv => whnf); exact ⟨rfl, rfl, rfl, rfl, rfl⟩; exact rfl
      · conv => whnf
        refine ⟨_, Weak.a ?_, ?_, h⟩; (conv => whnf); exact ⟨rfl, rfl, rfl, rfl, rfl⟩; exact rfl
end Go.Proofs.Ytpoakneeceaooaa.V09

set_option linter.unusedVariables false
set_option maxRecDepth 100000
set_option maxHeartbeats 0
namespace Go.Proofs.Ytpoakneeceaooaa.V09
open Go.Proofs Go.Proofs.Ytpoakneeceaooaa.VX
theorem c_ref08_SameOp {a0 : Int} {a1 : Int} {a2 : Int} {a3 : Int} {a4 : Int} {a5 : Int} {a6 : Int} {a7 : Int} {a8 : Int} {a9 : Int} {a10 : Int} {a11 : Int} {a12 : Bool} {a13 : Rws} {a14 : Bool} {a15 : Rws} {a16 : Int} {a17 : Int} {a18 : Int} {a19 : Int} {a20 : Int} {a21 : Int} {a22 : Int} {a23 : Int} {a24 : Int} {a25 : Int} {a26 : Int} {a27 : Int} {a28 : Int} {a29 : Int} {a30 : Int} {a31 : Int} {a32 : Int} {a33 : Int} {a34 : Int} {a35 : Int} {a36 : Bool} {a37 : Rws} {a38 : Bool} {a39 : Rws} {a40 : Int} {a41 : Int} {a42 : Int} {a43 : Int} {a44 : Int} {a45 : Int} {a46 : Int} {a47 : Int} {Q : Bool → Prop} {R : AV → List AB → Prop} (h : (g_ref08_SameOp a0 a1 a2 a3 a4 a5 a6 a7 a8 a9 a10 a11 a12 a13 a14 a15 a16 a17 a18 a19 a20 a21 a22 a23 a24 a25 a26 a27 a28 a29 a30 a31 a32 a33 a34 a35 a36 a37 a38 a39 a40 a41 a42 a43 a44 a45 a46 a47).run Q) (k : ∀ r, Q r → R (.bool (r)) ([])) : ACalls Try.prog tab 29 [.agg [.int .i64 (a0), .int .i64 (a1), .int .i64 (a2), .int .i64 (a3), .int .i64 (a4), .int .i64 (a5), .int .i64 (a6), .int .i64 (a7), .int .i64 (a8), .int .i64 (a9), .int .i64 (a10), .int .i64 (a11), .sl (a12) 51 (a13), .sl (a14) 21 (a15), .int .i64 (a16), .int .i64 (a17), .int .i64 (a18), .int .i64 (a19), .int .i64 (a20), .int .i64 (a21), .int .i64 (a22), .int .i64 (a23)], .agg [.int .i64 (a24), .int .i64 (a25), .int .i64 (a26), .int .i64 (a27), .int .i64 (a28), .int .i64 (a29), .int .i64 (a30), .int .i64 (a31), .int .i64 (a32), .int .i64 (a33), .int .i64 (a34), .int .i64 (a35), .sl (a36) 51 (a37), .sl (a38) 21 (a39), .int .i64 (a40), .int .i64 (a41), .int .i64 (a42), .int .i64 (a43), .int .i64 (a44), .int .i64 (a45), .int .i64 (a46), .int .i64 (a47)]] [] R := by
  refine ACalls.out (fun r => .bool (r)) (fun r => []) (Q := Q) (ACalls.introX (mv := mv) tab_ok mixed_ (fn := Try.f29) (by kernel_rfl) rfl (by kernel_rfl) (by kernel_rfl) (Nat.le_of_ble_eq_true rfl) ?_) (fun v => by first | exact ⟨rfl, Nat.le_of_ble_eq_true rfl⟩ | (cases v <;> exact ⟨rfl, Nat.le_of_ble_eq_true rfl⟩)) k
  conv => whnf
  refine ASeq.go tab_ok mixed_ ?_
  conv => whnf
  refine XSplit.mk (fun e => ?_) (fun e => ?_)
  · replace h := XSplit.t h e
    conv => whnf
    refine ⟨_, Weak.a ?_, ?_, h⟩; (conv => whnf); exact ⟨rfl, rfl, rfl, rfl, rfl⟩; exact rfl
  · replace h := XSplit.f h e
    conv => whnf
    refine ASeq.go tab_ok mixed_ ?_
    conv => whnf
    refine XSplit.mk (fun e => ?_) (fun e => ?_)
    · replace h := XSplit.t h e
      conv => whnf
      refine ⟨_, Weak.a ?_, ?_, h⟩; (conv => whnf); exact ⟨rfl, rfl, rfl, rfl, rfl⟩; exact rfl
    · replace h := XSplit.f h e
      conv => whnf
      refine ASeq.go tab_ok mixed_ ?_
      conv => whnf
      refine ALoop.ofW tab_ok mixed_ (fun v6 => ⟨[(2, .ptr 0 0), (3, .ptr 1 0), (4, .kb false), (100, .int .i64 ((↑(List.length a13) : Int))), (101, .int .i64 (v6))], [(0, .box 50 [.int .i64 (a0), .int .i64 (a1), .int .i64 (a2), .int .i64 (a3), .int .i64 (a4), .int .i64 (a5), .int .i64 (a6), .int .i64 (a7), .int .i64 (a8), .int .i64 (a9), .int .i64 (a10), .int .i64 (a11), .sl (a12) 51 (a13), .sl (a14) 21 (a15), .int .i64 (a16), .int .i64 (a17), .int .i64 (a18), .int .i64 (a19), .int .i64 (a20), .int .i64 (a21), .int .i64 (a22), .int .i64 (a23)]), (1, .box 50 [.int .i64 (a24), .int .i64 (a25), .int .i64 (a26), .int .i64 (a27), .int .i64 (a28), .int .i64 (a29), .int .i64 (a30), .int .i64 (a31), .int .i64 (a32), .int .i64 (a33), .int .i64 (a34), .int .i64 (a35), .sl (a36) 51 (a37), .sl (a38) 21 (a39), .int .i64 (a40), .int .i64 (a41), .int .i64 (a42), .int .i64 (a43), .int .i64 (a44), .int .i64 (a45), .int .i64 (a46), .int .i64 (a47)])], 2, [], []⟩) (sx (fun v7 => (.ret, ⟨[(4, .kb false)], [], 0, [], []⟩)) (fun v8 => (.exit 0, ⟨[(2, .ptr 0 0), (3, .ptr 1 0), (4, .kb false)], [(0, .box 50 [.int .i64 (a0), .int .i64 (a1), .int .i64 (a2), .int .i64 (a3), .int .i64 (a4), .int .i64 (a5), .int .i64 (a6), .int .i64 (a7), .int .i64 (a8), .int .i64 (a9), .int .i64 (a10), .int .i64 (a11), .sl (a12) 51 (a13), .sl (a14) 21 (a15), .int .i64 (a16), .int .i64 (a17), .int .i64 (a18), .int .i64 (a19), .int .i64 (a20), .int .i64 (a21), .int .i64 (a22), .int .i64 (a23)]), (1, .box 50 [.int .i64 (a24), .int .i64 (a25), .int .i64 (a26), .int .i64 (a27), .int .i64 (a28), .int .i64 (a29), .int .i64 (a30), .int .i64 (a31), .int .i64 (a32), .int .i64 (a33), .int .i64 (a34), .int .i64 (a35), .sl (a36) 51 (a37), .sl (a38) 21 (a39), .int .i64 (a40), .int .i64 (a41), .int .i64 (a42), .int .i64 (a43), .int .i64 (a44), .int .i64 (a45), .int .i64 (a46), .int .i64 (a47)])], 2, [], []⟩))) (W.bindE h) (Weak.a ?_) (fun v6 J_ Q h => ?_) (fun v h => ?_)
      · conv => whnf
        exact ⟨rfl, rfl, rfl, rfl, rfl⟩
      · conv => whnf
        refine ASeq.go tab_ok mixed_ ?_
        conv => whnf
        refine XSplit.mk (fun e => ?_) (fun e => ?_)
        · replace h := XSplit.t h e
          conv => whnf
          refine ASeq.go tab_ok mixed_ ?_
          conv => whnf
          refine XDraw.q [0, 1, 2, 3, 4, 5, 6, 7, 8, 9, 10] (by decide +kernel) ?_
          conv => whnf
          refine XNeed.mk (XNeed.c h) ?_; replace h := XNeed.x h
          conv => whnf
          refine XNeed.mk (XNeed.c h) ?_; replace h := XNeed.x h
          conv => whnf
          refine XSplit.mk (fun e => ?_) (fun e => ?_)
          · replace h := XSplit.t h e
            conv => whnf
            refine ⟨_, ?_, Weak.a ?_, h⟩; exact rfl; (conv => whnf); exact ⟨rfl, rfl, rfl, rfl, rfl⟩
          · replace h := XSplit.f h e
            conv => whnf
            refine ⟨_, Weak.a ?_, h⟩; (conv => whnf); exact ⟨rfl, rfl, rfl, rfl, rfl⟩
        · replace h := XSplit.f h e
          conv => whnf
          refine ⟨_, ?_, Weak.a ?_, h⟩; exact rfl; (conv => whnf); exact ⟨rfl, rfl, rfl, rfl, rfl⟩
      · rcases v with v7 | v8
        · conv => whnf
          refine ⟨_, Weak.a ?_, ?_, h⟩; (conv => whnf); exact ⟨rfl, rfl, rfl, rfl, rfl⟩; exact rfl
        · conv => whnf
          refine ASeq.go tab_ok mixed_ ?_
          conv => whnf
          refine ALoop.ofW tab_ok mixed_ (fun v9 => ⟨[(2, .ptr 0 0), (3, .ptr 1 0), (4, .kb false), (118, .int .i64 ((↑(List.length a15) : Int))), (119, .int .i64 (v9))], [(0, .box 50 [.int .i64 (a0), .int .i64 (a1), .int .i64 (a2), .int .i64 (a3), .int .i64 (a4), .int .i64 (a5), .int .i64 (a6), .int .i64 (a7), .int .i64 (a8), .int .i64 (a9), .int .i64 (a10), .int .i64 (a11), .sl (a12) 51 (a13), .sl (a14) 21 (a15), .int .i64 (a16), .int .i64 (a17), .int .i64 (a18), .int .i64 (a19), .int .i64 (a20), .int .i64 (a21), .int .i64 (a22), .int .i64 (a23)]), (1, .box 50 [.int .i64 (a24), .int .i64 (a25), .int .i64 (a26), .int .i64 (a27), .int .i64 (a28), .int .i64 (a29), .int .i64 (a30), .int .i64 (a31), .int .i64 (a32), .int .i64 (a33), .int .i64 (a34), .int .i64 (a35), .sl (a36) 51 (a37), .sl (a38) 21 (a39), .int .i64 (a40), .int .i64 (a41), .int .i64 (a42), .int .i64 (a43), .int .i64 (a44), .int .i64 (a45), .int .i64 (a46), .int .i64 (a47)])], 2, [], []⟩) (sx (fun v10 => (.ret, ⟨[(4, .kb false)], [], 0, [], []⟩)) (fun v11 => (.exit 2, ⟨[(4, .kb false)], [], 0, [], []⟩))) (W.bindE h) (Weak.a ?_) (fun v9 J_ Q h => ?_) (fun v h => ?_)
          · conv => whnf
            exact ⟨rfl, rfl, rfl, rfl, rfl⟩
          · conv => whnf
            refine ASeq.go tab_ok mixed_ ?_
            conv => whnf
            refine XSplit.mk (fun e => ?_) (fun e => ?_)
            · replace h := XSplit.t h e
              conv => whnf
              refine ASeq.go tab_ok mixed_ ?_
              conv => whnf
              refine XDraw.q [0, 1, 2, 3, 4, 5, 6, 7, 8, 9, 10] (by decide +kernel) ?_
              conv => whnf
              refine XNeed.mk (XNeed.c h) ?_; replace h := XNeed.x h
              conv => whnf
              refine XNeed.mk (XNeed.c h) ?_; replace h := XNeed.x h
              conv => whnf
              refine XSplit.mk (fun e => ?_) (fun e => ?_)
              · replace h := XSplit.t h e
                conv => whnf
                refine ⟨_, ?_, Weak.a ?_, h⟩; exact rfl; (conv => whnf); exact ⟨rfl, rfl, rfl, rfl, rfl⟩
              · replace h := XSplit.f h e
                conv => whnf
                refine ⟨_, Weak.a ?_, h⟩; (conv => whnf); exact ⟨rfl, rfl, rfl, rfl, rfl⟩
            · replace h := XSplit.f h e
              conv => whnf
              refine ⟨_, ?_, Weak.a ?_, h⟩; exact rfl; (conv => whnf); exact ⟨rfl, rfl, rfl, rfl, rfl⟩
          · rcases v with v10 | v11
            · conv => whnf
              refine ⟨_, Weak.a ?_, ?_, h⟩; (conv => whnf); exact ⟨rfl, rfl, rfl, rfl, rfl⟩; exact rfl
            · conv => whnf
              refine ⟨_, Weak.a ?_, ?_, h⟩; (conv => whnf); exact ⟨rfl, rfl, rfl, rfl, rfl⟩; exact rfl

theorem c_ref08_Same {a0 : Int} {a1 : Int} {a2 : Int} {a3 : Int} {a4 : Int} {a5 : Bool} {a6 : Rws} {a7 : Int} {a8 : Int} {a9 : Int} {a10 : Int} {a11 : Int} {a12 : Int} {a13 : Bool} {a14 : Rws} {a15 : Int} {Q : Bool → Prop} {R : AV → List AB → Prop} (h : (g_ref08_Same a0 a1 a2 a3 a4 a5 a6 a7 a8 a9 a10 a11 a12 a13 a14 a15).run Q) (k : ∀ r, Q r → R (.bool (r)) ([])) : ACalls Try.prog tab 14 [.agg [.int .i64 (a0), .int .i64 (a1), .int .i64 (a2), .int .i64 (a3), .int .i64 (a4), .sl (a5) 50 (a6), .int .i64 (a7)], .agg [.int .i64 (a8), .int .i64 (a9), .int .i64 (a10), .int .i64 (a11), .int .i64 (a12), .sl (a13) 50 (a14), .int .i64 (a15)]] [] R := by
  refine ACalls.out (fun r => .bool (r)) (fun r => []) (Q := Q) (ACalls.introX (mv := mv) tab_ok mixed_ (fn := Try.f14) (by kernel_rfl) rfl (by kernel_rfl) (by kernel_rfl) (Nat.le_of_ble_eq_true rfl) ?_) (fun v => by first | exact ⟨rfl, Nat.le_of_ble_eq_true rfl⟩ | (cases v <;> exact ⟨rfl, Nat.le_of_ble_eq_true rfl⟩)) k
  conv => whnf
  refine ASeq.go tab_ok mixed_ ?_
  conv => whnf
  refine XSplit.mk (fun e => ?_) (fun e => ?_)
  · replace h := XSplit.t h e
    conv => whnf
    refine ⟨_, Weak.a ?_, ?_, h⟩; (conv => whnf); exact ⟨rfl, rfl, rfl, rfl, rfl⟩; exact rfl
  · replace h := XSplit.f h e
    conv => whnf
    refine ASeq.go tab_ok mixed_ ?_
    conv => whnf
    refine ALoop.ofW tab_ok mixed_ (fun v4 => ⟨[(2, .ptr 0 0), (3, .ptr 1 0), (4, .kb false), (43, .int .i64 ((↑(List.length a6) : Int))), (44, .int .i64 (v4))], [(0, .box 26 [.int .i64 (a0), .int .i64 (a1), .int .i64 (a2), .int .i64 (a3), .int .i64 (a4), .sl (a5) 50 (a6), .int .i64 (a7)]), (1, .box 26 [.int .i64 (a8), .int .i64 (a9), .int .i64 (a10), .int .i64 (a11), .int .i64 (a12), .sl (a13) 50 (a14), .int .i64 (a15)])], 2, [], []⟩) (sx (fun v5 => (.ret, ⟨[(4, .kb false)], [], 0, [], []⟩)) (fun v6 => (.exit 0, ⟨[(4, .kb false)], [], 0, [], []⟩))) (W.bindE h) (Weak.a ?_) (fun v4 J_ Q h => ?_) (fun v h => ?_)
    · conv => whnf
      exact ⟨rfl, rfl, rfl, rfl, rfl⟩
    · conv => whnf
      refine ASeq.go tab_ok mixed_ ?_
      conv => whnf
      refine XSplit.mk (fun e => ?_) (fun e => ?_)
      · replace h := XSplit.t h e
        conv => whnf
        refine ASeq.go tab_ok mixed_ ?_
        conv => whnf
        refine XDraw.d [0, 1, 2, 3, 4, 5, 6, 7, 8, 9, 10, 11] [[], [], [], [], [], [], [], [], [], [], [2, 2], []] (by decide +kernel) ?_
        conv => whnf
        refine XNeed.mk (XNeed.c h) ?_; replace h := XNeed.x h
        conv => whnf
        refine XNeed.mk (XNeed.c h) ?_; replace h := XNeed.x h
        conv => whnf
        refine ACalls.inn (c_ref08_SameOp (W.bindE h) (fun v7 h => ?_)) ⟨rfl, rfl⟩
        conv => whnf
        refine XSplit.mk (fun e => ?_) (fun e => ?_)
        · replace h := XSplit.t h e
          conv => whnf
          refine ⟨_, ?_, Weak.a ?_, h⟩; exact rfl; (conv => whnf); exact ⟨rfl, rfl, rfl, rfl, rfl⟩
        · replace h := XSplit.f h e
          conv => whnf
          refine ⟨_, Weak.a ?_, h⟩; (conv => whnf); exact ⟨rfl, rfl, rfl, rfl, rfl⟩
      · replace h := XSplit.f h e
        conv => whnf
        refine ⟨_, ?_, Weak.a ?_, h⟩; exact rfl; (conv => whnf); exact ⟨rfl, rfl, rfl, rfl, rfl⟩
    · rcases v with v5 | v6
      · conv => whnf
        refine ⟨_, Weak.a ?_, ?_, h⟩; (conv => whnf); exact ⟨rfl, rfl, rfl, rfl, rfl⟩; exact rfl
      · conv => whnf
        refine ⟨_, Weak.a ?_, ?_, h⟩; (conv => whnf); exact ⟨rfl, rfl, rfl, rfl, rfl⟩; exact rfl

theorem c_law09_fixed {Q : Bool → Prop} {R : AV → List AB → Prop} (h : (g_law09_fixed).run Q) (k : ∀ r, Q r → R (.bool (r)) ([])) : ACalls Try.prog tab 12 [] [] R := by
  refine ACalls.out (fun r => .bool (r)) (fun r => []) (Q := Q) (ACalls.introX (mv := mv) tab_ok mixed_ (fn := Try.f12) (by kernel_rfl) rfl (by kernel_rfl) (by kernel_rfl) (Nat.le_of_ble_eq_true rfl) ?_) (fun v => by first | exact ⟨rfl, Nat.le_of_ble_eq_true rfl⟩ | (cases v <;> exact ⟨rfl, Nat.le_of_ble_eq_true rfl⟩)) k
  conv => whnf
  refine ACalls.inn (c_law09_plain (W.bindE h) (fun v6 h => ?_)) ⟨rfl, rfl⟩
  conv => whnf
  refine ACalls.inn (c_pack_Encode (W.bindE h) (fun v7 h => ?_)) ⟨rfl, rfl⟩
  conv => whnf
  refine ACalls.inn (c_pack_Decode (W.bindE h) (fun v8 h => ?_)) ⟨rfl, rfl⟩
  conv => whnf
  refine ASeq.joinW tab_ok mixed_ (fun v9 => ⟨[(0, .bool (v9))], [], 0, [], []⟩) h (fun Q h => ?_) (fun v9 h => ?_)
  · conv => whnf
    refine XSplit.mk (fun e => ?_) (fun e => ?_)
    · replace h := XSplit.t h e
      conv => whnf
      refine ACalls.inn (c_law09_same (W.bindE h) (fun v10 h => ?_)) ⟨rfl, rfl⟩
      conv => whnf
      refine XSplit.mk (fun e => ?_) (fun e => ?_)
      · replace h := XSplit.t h e
        conv => whnf
        refine ACalls.inn (c_ref08_Same (W.bindE h) (fun v11 h => ?_)) ⟨rfl, rfl⟩
        conv => whnf
        refine ⟨_, Weak.a ?_, h⟩; (conv => whnf); exact ⟨rfl, rfl, rfl, rfl, rfl⟩
      · replace h := XSplit.f h e
        conv => whnf
        refine ⟨_, Weak.a ?_, h⟩; (conv => whnf); exact ⟨rfl, rfl, rfl, rfl, rfl⟩
    · replace h := XSplit.f h e
      conv => whnf
      refine ⟨_, Weak.a ?_, h⟩; (conv => whnf); exact ⟨rfl, rfl, rfl, rfl, rfl⟩
  · conv => whnf
    refine ⟨_, Weak.a ?_, ?_, h⟩; (conv => whnf); exact ⟨rfl, rfl, rfl, rfl, rfl⟩; exact rfl

theorem c_law09_PackEncodes {a0 : Int} {a1 : Int} {a2 : Int} {a3 : Int} {a4 : Int} {a5 : Bool} {a6 : Rws} {a7 : Int} {Q : Bool → Prop} {R : AV → List AB → Prop} (h : (g_law09_PackEncodes a0 a1 a2 a3 a4 a5 a6 a7).run Q) (k : ∀ r, Q r → R (.bool (r)) ([])) : ACalls Try.prog tab 3 [.agg [.int .i64 (a0), .int .i64 (a1), .int .i64 (a2), .int .i64 (a3), .int .i64 (a4), .sl (a5) 50 (a6), .int .i64 (a7)]] [] R := by
  refine ACalls.out (fun r => .bool (r)) (fun r => []) (Q := Q) (ACalls.introX (mv := mv) tab_ok mixed_ (fn := Try.f3) (by kernel_rfl) rfl (by kernel_rfl) (by kernel_rfl) (Nat.le_of_ble_eq_true rfl) ?_) (fun v => by first | exact ⟨rfl, Nat.le_of_ble_eq_true rfl⟩ | (cases v <;> exact ⟨rfl, Nat.le_of_ble_eq_true rfl⟩)) k
  conv => whnf
  refine ACalls.inn (c_ref08_Copy (W.bindE h) (fun v7 h => ?_)) ⟨rfl, rfl⟩
  conv => whnf
  refine ACalls.inn (c_pack_Encode (W.bindE h) (fun v8 h => ?_)) ⟨rfl, rfl⟩
  conv => whnf
  refine ACalls.inn (c_ref09_Encode (W.bindE h) (fun v9 h => ?_)) ⟨rfl, rfl⟩
  conv => whnf
  refine ASeq.joinW tab_ok mixed_ (fun v10 => ⟨[(2, .bool (v10))], [], 0, [], []⟩) h (fun Q h => ?_) (fun v10 h => ?_)
  · conv => whnf
    refine ACalls.inn (c_law09_fixed (W.bindE h) (fun v11 h => ?_)) ⟨rfl, rfl⟩
    conv => whnf
    refine XSplit.mk (fun e => ?_) (fun e => ?_)
    · replace h := XSplit.t h e
      conv => whnf
      refine ACalls.inn (c_law09_same (W.bindE h) (fun v12 h => ?_)) ⟨rfl, rfl⟩
      conv => whnf
      refine XSplit.mk (fun e => ?_) (fun e => ?_)
      · replace h := XSplit.t h e
        conv => whnf
        refine ACalls.inn (c_ref08_Same (W.bindE h) (fun v13 h => ?_)) ⟨rfl, rfl⟩
        conv => whnf
        refine ⟨_, Weak.a ?_, h⟩; (conv => whnf); exact ⟨rfl, rfl, rfl, rfl, rfl⟩
      · replace h := XSplit.f h e
        conv => whnf
        refine ⟨_, Weak.a ?_, h⟩; (conv => whnf); exact ⟨rfl, rfl, rfl, rfl, rfl⟩
    · replace h := XSplit.f h e
      conv => whnf
      refine ⟨_, Weak.a ?_, h⟩; (conv => whnf); exact ⟨rfl, rfl, rfl, rfl, rfl⟩
  · conv => whnf
    refine ⟨_, Weak.a ?_, ?_, h⟩; (conv => whnf); exact ⟨rfl, rfl, rfl, rfl, rfl⟩; exact rfl

theorem c_ref09_Front {a0 : Bool} {a1 : Rws} {a2 : ByteArray} {Q : Bool × Rws × Int → Prop} {R : AV → List AB → Prop} (h : (g_ref09_Front a0 a1 a2).run Q) (k : ∀ r, Q r → R (.tup [.sl (r.fst) 5 (r.snd.fst), .int .i64 (r.snd.snd)]) ([])) : ACalls Try.prog tab 38 [.sl (a0) 5 (a1), .str (a2)] [] R := by
  refine ACalls.out (fun r => .tup [.sl (r.fst) 5 (r.snd.fst), .int .i64 (r.snd.snd)]) (fun r => []) (Q := Q) (ACalls.introX (mv := mv) tab_ok mixed_ (fn := Try.f38) (by kernel_rfl) rfl (by kernel_rfl) (by kernel_rfl) (Nat.le_of_ble_eq_true rfl) ?_) (fun v => by first | exact ⟨rfl, Nat.le_of_ble_eq_true rfl⟩ | (cases v <;> exact ⟨rfl, Nat.le_of_ble_eq_true rfl⟩)) k
  conv => whnf
  refine ASeq.go tab_ok mixed_ ?_
  conv => whnf
  refine XSplit.mk (fun e => ?_) (fun e => ?_)
  · replace h := XSplit.t h e
    conv => whnf
    refine ⟨_, Weak.a ?_, ?_, h⟩; (conv => whnf); exact ⟨rfl, rfl, rfl, rfl, rfl⟩; exact rfl
  · replace h := XSplit.f h e
    conv => whnf
    refine ASeq.go tab_ok mixed_ ?_
    conv => whnf
    refine ALoop.unroll tab_ok mixed_ (kn := fun st => ALoop Try.prog tab _ _ _ _ st _) (fun _ h => h) ?_
    conv => whnf
    refine ASeq.go tab_ok mixed_ ?_
    conv => whnf
    refine XSplit.tt rfl ?_
    conv => whnf
    refine ASeq.go tab_ok mixed_ ?_
    conv => whnf
    refine XDraw.q [0, 1, 2, 3, 4, 5, 6, 7] (by decide +kernel) ?_
    conv => whnf
    refine XNeed.mk (XNeed.c h) ?_; replace h := XNeed.x h
    conv => whnf
    refine XNeed.mk (XNeed.c h) ?_; replace h := XNeed.x h
    conv => whnf
    refine XSplit.mk (fun e => ?_) (fun e => ?_)
    · replace h := XSplit.t h e
      conv => whnf
      refine ⟨_, Weak.a ?_, ?_, h⟩; (conv => whnf); exact ⟨rfl, rfl, rfl, rfl, rfl⟩; exact rfl
    · replace h := XSplit.f h e
      conv => whnf
      refine ALoop.unroll tab_ok mixed_ (kn := fun st => ALoop Try.prog tab _ _ _ _ st _) (fun _ h => h) ?_
      conv => whnf
      refine ASeq.go tab_ok mixed_ ?_
      conv => whnf
      refine XSplit.tt rfl ?_
      conv => whnf
      refine ASeq.go tab_ok mixed_ ?_
      conv => whnf
      refine XDraw.q [0, 1, 2, 3, 4, 5, 6, 7] (by decide +kernel) ?_
      conv => whnf
      refine XNeed.mk (XNeed.c h) ?_; replace h := XNeed.x h
      conv => whnf
      refine XNeed.mk (XNeed.c h) ?_; replace h := XNeed.x h
      conv => whnf
      refine XSplit.mk (fun e => ?_) (fun e => ?_)
      · replace h := XSplit.t h e
        conv => whnf
        refine ⟨_, Weak.a ?_, ?_, h⟩; (conv => whnf); exact ⟨rfl, rfl, rfl, rfl, rfl⟩; exact rfl
      · replace h := XSplit.f h e
        conv => whnf
        refine ALoop.unroll tab_ok mixed_ (kn := fun st => ALoop Try.prog tab _ _ _ _ st _) (fun _ h => h) ?_
        conv => whnf
        refine ASeq.go tab_ok mixed_ ?_
        conv => whnf
        refine XSplit.tt rfl ?_
        conv => whnf
        refine ASeq.go tab_ok mixed_ ?_
        conv => whnf
        refine XDraw.q [0, 1, 2, 3, 4, 5, 6, 7] (by decide +kernel) ?_
        conv => whnf
        refine XNeed.mk (XNeed.c h) ?_; replace h := XNeed.x h
        conv => whnf
        refine XNeed.mk (XNeed.c h) ?_; replace h := XNeed.x h
        conv => whnf
        refine XSplit.mk (fun e => ?_) (fun e => ?_)
        · replace h := XSplit.t h e
          conv => whnf
          refine ⟨_, Weak.a ?_, ?_, h⟩; (conv => whnf); exact ⟨rfl, rfl, rfl, rfl, rfl⟩; exact rfl
        · replace h := XSplit.f h e
          conv => whnf
          refine ALoop.unroll tab_ok mixed_ (kn := fun st => ALoop Try.prog tab _ _ _ _ st _) (fun _ h => h) ?_
          conv => whnf
          refine ASeq.go tab_ok mixed_ ?_
          conv => whnf
          refine XSplit.tt rfl ?_
          conv => whnf
          refine ASeq.go tab_ok mixed_ ?_
          conv => whnf
          refine XDraw.q [0, 1, 2, 3, 4, 5, 6, 7] (by decide +kernel) ?_
          conv => whnf
          refine XNeed.mk (XNeed.c h) ?_; replace h := XNeed.x h
          conv => whnf
          refine XNeed.mk (XNeed.c h) ?_; replace h := XNeed.x h
          conv => whnf
          refine XSplit.mk (fun e => ?_) (fun e => ?_)
          · replace h := XSplit.t h e
            conv => whnf
            refine ⟨_, Weak.a ?_, ?_, h⟩; (conv => whnf); exact ⟨rfl, rfl, rfl, rfl, rfl⟩; exact rfl
          · replace h := XSplit.f h e
            conv => whnf
            refine ALoop.unroll tab_ok mixed_ (kn := fun st => ALoop Try.prog tab _ _ _ _ st _) (fun _ h => h) ?_
            conv => whnf
            refine ASeq.go tab_ok mixed_ ?_
            conv => whnf
            refine XSplit.ff rfl ?_
            conv => whnf
            refine XNeed.mk (XNeed.c h) ?_; replace h := XNeed.x h
            conv => whnf
            refine ⟨_, Weak.a ?_, ?_, h⟩; (conv => whnf); exact ⟨rfl, rfl, rfl, rfl, rfl⟩; exact rfl

theorem c_ref04_Get {a0 : Bool} {a1 : Rws} {Q : Int × Int × Int → Prop} {R : AV → List AB → Prop} (h : (g_ref04_Get a0 a1).run Q) (k : ∀ r, Q r → R (.tup [.int .u64 (r.fst), .int .i64 (r.snd.fst), .int .i64 (r.snd.snd)]) ([])) : ACalls Try.prog tab 76 [.sl (a0) 5 (a1)] [] R := by
  refine ACalls.out (fun r => .tup [.int .u64 (r.fst), .int .i64 (r.snd.fst), .int .i64 (r.snd.snd)]) (fun r => []) (Q := Q) (ACalls.introX (mv := mv) tab_ok mixed_ (fn := Try.f76) (by kernel_rfl) rfl (by kernel_rfl) (by kernel_rfl) (Nat.le_of_ble_eq_true rfl) ?_) (fun v => by first | exact ⟨rfl, Nat.le_of_ble_eq_true rfl⟩ | (cases v <;> exact ⟨rfl, Nat.le_of_ble_eq_true rfl⟩)) k
  conv => whnf
  refine ASeq.go tab_ok mixed_ ?_
  conv => whnf
  refine ALoop.ofW tab_ok mixed_ (fun v3 => ⟨[(0, .sl (a0) 5 (a1)), (2, .int .u64 (0)), (3, .int .i64 (0)), (4, .int .i64 (0)), (5, .int .u64 (v3.fst)), (6, .int .i64 (v3.snd))], [], 0, [], []⟩) (sx (fun v4 => (.ret, ⟨[(2, .int .u64 (v4.fst)), (3, .int .i64 (v4.snd.fst)), (4, .int .i64 (v4.snd.snd))], [], 0, [], []⟩)) (fun v5 => (.exit 0, ⟨[(2, .int .u64 (0)), (3, .int .i64 (0)), (4, .int .i64 (0))], [], 0, [], []⟩))) (W.bindE h) (Weak.a ?_) (fun v3 J_ Q h => ?_) (fun v h => ?_)
  · conv => whnf
    exact ⟨rfl, rfl, rfl, rfl, rfl⟩
  · conv => whnf
    refine ASeq.go tab_ok mixed_ ?_
    conv => whnf
    refine XSplit.mk (fun e => ?_) (fun e => ?_)
    · replace h := XSplit.t h e
      conv => whnf
      refine ASeq.go tab_ok mixed_ ?_
      conv => whnf
      refine XNeed.mk (XNeed.c h) ?_; replace h := XNeed.x h
      conv => whnf
      refine ASeq.go tab_ok mixed_ ?_
      conv => whnf
      refine XSplit.mk (fun e => ?_) (fun e => ?_)
      · replace h := XSplit.t h e
        conv => whnf
        refine ⟨_, ?_, Weak.a ?_, h⟩; exact rfl; (conv => whnf); exact ⟨rfl, rfl, rfl, rfl, rfl⟩
      · replace h := XSplit.f h e
        conv => whnf
        refine XNeed.mk (of_decide_eq_true rfl) ?_
        conv => whnf
        refine XNeed.mk (XNeed.c h) ?_; replace h := XNeed.x h
        conv => whnf
        refine XSplit.mk (fun e => ?_) (fun e => ?_)
        · replace h := XSplit.t h e
          conv => whnf
          refine ASeq.go tab_ok mixed_ ?_
          conv => whnf
          refine XSplit.mk (fun e => ?_) (fun e => ?_)
          · replace h := XSplit.t h e
            conv => whnf
            refine ⟨_, ?_, Weak.a ?_, h⟩; exact rfl; (conv => whnf); exact ⟨rfl, rfl, rfl, rfl, rfl⟩
          · replace h := XSplit.f h e
            conv => whnf
            refine ⟨_, ?_, Weak.a ?_, h⟩; exact rfl; (conv => whnf); exact ⟨rfl, rfl, rfl, rfl, rfl⟩
        · replace h := XSplit.f h e
          conv => whnf
          refine ⟨_, Weak.a ?_, h⟩; (conv => whnf); exact ⟨rfl, rfl, rfl, rfl, rfl⟩
    · replace h := XSplit.f h e
      conv => whnf
      refine ⟨_, ?_, Weak.a ?_, h⟩; exact rfl; (conv => whnf); exact ⟨rfl, rfl, rfl, rfl, rfl⟩
  · rcases v with v4 | v5
    · conv => whnf
      refine ⟨_, Weak.a ?_, ?_, h⟩; (conv => whnf); exact ⟨rfl, rfl, rfl, rfl, rfl⟩; exact rfl
    · conv => whnf
      refine ⟨_, Weak.a ?_, ?_, h⟩; (conv => whnf); exact ⟨rfl, rfl, rfl, rfl, rfl⟩; exact rfl

theorem c___ref04_Reader__U_p {a0 : Bool} {a1 : Rws} {a2 : Int} {a3 : Int} {a4 : Int} {a5 : Int} {a6 : Int} {Q : Int × Rws × Int → Prop} {R : AV → List AB → Prop} (h : (g___ref04_Reader__U_p a0 a1 a2 a3 a4 a5 a6).run Q) (k : ∀ r, Q r → R (.int .u64 (r.fst)) ([.box 85 [.sl (a0) 5 (r.snd.fst), .int .i64 (r.snd.snd), .int .i64 (a3), .int .i64 (a4), .int .i64 (a5), .int .i64 (a6)]])) : ACalls Try.prog tab 57 [.ptr 0 0] [.box 85 [.sl (a0) 5 (a1), .int .i64 (a2), .int .i64 (a3), .int .i64 (a4), .int .i64 (a5), .int .i64 (a6)]] R := by
  refine ACalls.out (fun r => .int .u64 (r.fst)) (fun r => [.box 85 [.sl (a0) 5 (r.snd.fst), .int .i64 (r.snd.snd), .int .i64 (a3), .int .i64 (a4), .int .i64 (a5), .int .i64 (a6)]]) (Q := Q) (ACalls.introX (mv := mv) tab_ok mixed_ (fn := Try.f57) (by kernel_rfl) rfl (by kernel_rfl) (by kernel_rfl) (Nat.le_of_ble_eq_true rfl) ?_) (fun v => by first | exact ⟨rfl, Nat.le_of_ble_eq_true rfl⟩ | (cases v <;> exact ⟨rfl, Nat.le_of_ble_eq_true rfl⟩)) k
  conv => whnf
  refine ASeq.go tab_ok mixed_ ?_
  conv => whnf
  refine XSplit.mk (fun e => ?_) (fun e => ?_)
  · replace h := XSplit.t h e
    conv => whnf
    refine ⟨_, Weak.a ?_, ?_, h⟩; (conv => whnf); exact ⟨rfl, rfl, rfl, rfl, rfl⟩; exact rfl
  · replace h := XSplit.f h e
    conv => whnf
    refine ACalls.inn (c_ref04_Get (W.bindE h) (fun v1 h => ?_)) ⟨rfl, rfl⟩
    conv => whnf
    refine XNeed.mk (XNeed.c h) ?_; replace h := XNeed.x h
    conv => whnf
    refine ⟨_, Weak.a ?_, ?_, h⟩; (conv => whnf); exact ⟨rfl, rfl, rfl, rfl, rfl⟩; exact rfl

theorem c___ref09_In__note_p {a0 : Int} {a1 : Bool} {a2 : Rws} {a3 : Int} {a4 : Int} {a5 : Int} {a6 : Int} {a7 : Int} {Q : Int × Int × Int → Prop} {R : AV → List AB → Prop} (h : (g___ref09_In__note_p a0 a1 a2 a3 a4 a5 a6 a7).run Q) (k : ∀ r, Q r → R (.tup []) ([.box 85 [.sl (a1) 5 (a2), .int .i64 (a3), .int .i64 (a4), .int .i64 (r.fst), .int .i64 (r.snd.fst), .int .i64 (r.snd.snd)]])) : ACalls Try.prog tab 43 [.ptr 0 0, .int .i64 (a0)] [.box 85 [.sl (a1) 5 (a2), .int .i64 (a3), .int .i64 (a4), .int .i64 (a5), .int .i64 (a6), .int .i64 (a7)]] R := by
  refine ACalls.out (fun r => .tup []) (fun r => [.box 85 [.sl (a1) 5 (a2), .int .i64 (a3), .int .i64 (a4), .int .i64 (r.fst), .int .i64 (r.snd.fst), .int .i64 (r.snd.snd)]]) (Q := Q) (ACalls.introX (mv := mv) tab_ok mixed_ (fn := Try.f43) (by kernel_rfl) rfl (by kernel_rfl) (by kernel_rfl) (Nat.le_of_ble_eq_true rfl) ?_) (fun v => by first | exact ⟨rfl, Nat.le_of_ble_eq_true rfl⟩ | (cases v <;> exact ⟨rfl, Nat.le_of_ble_eq_true rfl⟩)) k
  conv => whnf
  refine XSplit.mk (fun e => ?_) (fun e => ?_)
  · replace h := XSplit.t h e
    conv => whnf
    refine ⟨_, Weak.a ?_, ?_, h⟩; (conv => whnf); exact ⟨rfl, rfl, rfl, rfl, rfl⟩; exact rfl
  · replace h := XSplit.f h e
    conv => whnf
    refine ⟨_, Weak.a ?_, ?_, h⟩; (conv => whnf); exact ⟨rfl, rfl, rfl, rfl, rfl⟩; exact rfl

theorem c___ref09_In__U_p {a0 : Bool} {a1 : Rws} {a2 : Int} {a3 : Int} {a4 : Int} {a5 : Int} {a6 : Int} {Q : Int × Rws × Int × Int × Int × Int → Prop} {R : AV → List AB → Prop} (h : (g___ref09_In__U_p a0 a1 a2 a3 a4 a5 a6).run Q) (k : ∀ r, Q r → R (.int .i64 (r.fst)) ([.box 85 [.sl (a0) 5 (r.snd.fst), .int .i64 (r.snd.snd.fst), .int .i64 (a3), .int .i64 (r.snd.snd.snd.fst), .int .i64 (r.snd.snd.snd.snd.fst), .int .i64 (r.snd.snd.snd.snd.snd)]])) : ACalls Try.prog tab 39 [.ptr 0 0] [.box 85 [.sl (a0) 5 (a1), .int .i64 (a2), .int .i64 (a3), .int .i64 (a4), .int .i64 (a5), .int .i64 (a6)]] R := by
  refine ACalls.out (fun r => .int .i64 (r.fst)) (fun r => [.box 85 [.sl (a0) 5 (r.snd.fst), .int .i64 (r.snd.snd.fst), .int .i64 (a3), .int .i64 (r.snd.snd.snd.fst), .int .i64 (r.snd.snd.snd.snd.fst), .int .i64 (r.snd.snd.snd.snd.snd)]]) (Q := Q) (ACalls.introX (mv := mv) tab_ok mixed_ (fn := Try.f39) (by kernel_rfl) rfl (by kernel_rfl) (by kernel_rfl) (Nat.le_of_ble_eq_true rfl) ?_) (fun v => by first | exact ⟨rfl, Nat.le_of_ble_eq_true rfl⟩ | (cases v <;> exact ⟨rfl, Nat.le_of_ble_eq_true rfl⟩)) k
  conv => whnf
  refine ACalls.inn (c___ref04_Reader__U_p (W.bindE h) (fun v3 h => ?_)) ⟨rfl, rfl⟩
  conv => whnf
  refine ACalls.inn (c___ref09_In__note_p (W.bindE h) (fun v4 h => ?_)) ⟨rfl, rfl⟩
  conv => whnf
  refine ASeq.go tab_ok mixed_ ?_
  conv => whnf
  refine XSplit.mk (fun e => ?_) (fun e => ?_)
  · replace h := XSplit.t h e
    conv => whnf
    refine ACalls.inn (c___ref09_In__note_p (W.bindE h) (fun v5 h => ?_)) ⟨rfl, rfl⟩
    conv => whnf
    refine ⟨_, Weak.a ?_, ?_, h⟩; (conv => whnf); exact ⟨rfl, rfl, rfl, rfl, rfl⟩; exact rfl
  · replace h := XSplit.f h e
    conv => whnf
    refine ⟨_, Weak.a ?_, ?_, h⟩; (conv => whnf); exact ⟨rfl, rfl, rfl, rfl, rfl⟩; exact rfl

theorem c_ref04_Unfold {a0 : Int} {Q : Int → Prop} {R : AV → List AB → Prop} (h : (g_ref04_Unfold a0).run Q) (k : ∀ r, Q r → R (.int .i64 (r)) ([])) : ACalls Try.prog tab 77 [.int .u64 (a0)] [] R := by
  refine ACalls.out (fun r => .int .i64 (r)) (fun r => []) (Q := Q) (ACalls.introX (mv := mv) tab_ok mixed_ (fn := Try.f77) (by kernel_rfl) rfl (by kernel_rfl) (by kernel_rfl) (Nat.le_of_ble_eq_true rfl) ?_) (fun v => by first | exact ⟨rfl, Nat.le_of_ble_eq_true rfl⟩ | (cases v <;> exact ⟨rfl, Nat.le_of_ble_eq_true rfl⟩)) k
  conv => whnf
  refine ASeq.go tab_ok mixed_ ?_
  conv => whnf
  refine XNeed.mk (of_decide_eq_true rfl) ?_
  conv => whnf
  refine XSplit.mk (fun e => ?_) (fun e => ?_)
  · replace h := XSplit.t h e
    conv => whnf
    refine XNeed.mk (of_decide_eq_true rfl) ?_
    conv => whnf
    refine ⟨_, Weak.a ?_, ?_, h⟩; (conv => whnf); exact ⟨rfl, rfl, rfl, rfl, rfl⟩; exact rfl
  · replace h := XSplit.f h e
    conv => whnf
    refine XNeed.mk (of_decide_eq_true rfl) ?_
    conv => whnf
    refine ⟨_, Weak.a ?_, ?_, h⟩; (conv => whnf); exact ⟨rfl, rfl, rfl, rfl, rfl⟩; exact rfl

theorem c___ref04_Reader__S_p {a0 : Bool} {a1 : Rws} {a2 : Int} {a3 : Int} {a4 : Int} {a5 : Int} {a6 : Int} {Q : Int × Rws × Int → Prop} {R : AV → List AB → Prop} (h : (g___ref04_Reader__S_p a0 a1 a2 a3 a4 a5 a6).run Q) (k : ∀ r, Q r → R (.int .i64 (r.fst)) ([.box 85 [.sl (a0) 5 (r.snd.fst), .int .i64 (r.snd.snd), .int .i64 (a3), .int .i64 (a4), .int .i64 (a5), .int .i64 (a6)]])) : ACalls Try.prog tab 58 [.ptr 0 0] [.box 85 [.sl (a0) 5 (a1), .int .i64 (a2), .int .i64 (a3), .int .i64 (a4), .int .i64 (a5), .int .i64 (a6)]] R := by
  refine ACalls.out (fun r => .int .i64 (r.fst)) (fun r => [.box 85 [.sl (a0) 5 (r.snd.fst), .int .i64 (r.snd.snd), .int .i64 (a3), .int .i64 (a4), .int .i64 (a5), .int .i64 (a6)]]) (Q := Q) (ACalls.introX (mv := mv) tab_ok mixed_ (fn := Try.f58) (by kernel_rfl) rfl (by kernel_rfl) (by kernel_rfl) (Nat.le_of_ble_eq_true rfl) ?_) (fun v => by first | exact ⟨rfl, Nat.le_of_ble_eq_true rfl⟩ | (cases v <;> exact ⟨rfl, Nat.le_of_ble_eq_true rfl⟩)) k
  conv => whnf
  refine ACalls.inn (c___ref04_Reader__U_p (W.bindE h) (fun v2 h => ?_)) ⟨rfl, rfl⟩
  conv => whnf
  refine ACalls.inn (c_ref04_Unfold (W.bindE h) (fun v3 h => ?_)) ⟨rfl, rfl⟩
  conv => whnf
  refine ⟨_, Weak.a ?_, ?_, h⟩; (conv => whnf); exact ⟨rfl, rfl, rfl, rfl, rfl⟩; exact rfl

theorem c_ref01_Fits {a0 : Int} {a1 : Int} {Q : Bool → Prop} {R : AV → List AB → Prop} (h : (g_ref01_Fits a0 a1).run Q) (k : ∀ r, Q r → R (.bool (r)) ([])) : ACalls Try.prog tab 59 [.int .i64 (a0), .int .i64 (a1)] [] R := by
  refine ACalls.out (fun r => .bool (r)) (fun r => []) (Q := Q) (ACalls.introX (mv := mv) tab_ok mixed_ (fn := Try.f59) (by kernel_rfl) rfl (by kernel_rfl) (by kernel_rfl) (Nat.le_of_ble_eq_true rfl) ?_) (fun v => by first | exact ⟨rfl, Nat.le_of_ble_eq_true rfl⟩ | (cases v <;> exact ⟨rfl, Nat.le_of_ble_eq_true rfl⟩)) k
  conv => whnf
  refine XNeed.mk (XNeed.c h) ?_; replace h := XNeed.x h
  conv => whnf
  refine ⟨_, Weak.a ?_, ?_, h⟩; (conv => whnf); exact ⟨rfl, rfl, rfl, rfl, rfl⟩; exact rfl

theorem c___ref09_In__S_p {a0 : Int} {a1 : Bool} {a2 : Rws} {a3 : Int} {a4 : Int} {a5 : Int} {a6 : Int} {a7 : Int} {Q : Int × Rws × Int × Int × Int × Int → Prop} {R : AV → List AB → Prop} (h : (g___ref09_In__S_p a0 a1 a2 a3 a4 a5 a6 a7).run Q) (k : ∀ r, Q r → R (.int .i64 (r.fst)) ([.box 85 [.sl (a1) 5 (r.snd.fst), .int .i64 (r.snd.snd.fst), .int .i64 (a4), .int .i64 (r.snd.snd.snd.fst), .int .i64 (r.snd.snd.snd.snd.fst), .int .i64 (r.snd.snd.snd.snd.snd)]])) : ACalls Try.prog tab 40 [.ptr 0 0, .int .i64 (a0)] [.box 85 [.sl (a1) 5 (a2), .int .i64 (a3), .int .i64 (a4), .int .i64 (a5), .int .i64 (a6), .int .i64 (a7)]] R := by
  refine ACalls.out (fun r => .int .i64 (r.fst)) (fun r => [.box 85 [.sl (a1) 5 (r.snd.fst), .int .i64 (r.snd.snd.fst), .int .i64 (a4), .int .i64 (r.snd.snd.snd.fst), .int .i64 (r.snd.snd.snd.snd.fst), .int .i64 (r.snd.snd.snd.snd.snd)]]) (Q := Q) (ACalls.introX (mv := mv) tab_ok mixed_ (fn := Try.f40) (by kernel_rfl) rfl (by kernel_rfl) (by kernel_rfl) (Nat.le_of_ble_eq_true rfl) ?_) (fun v => by first | exact ⟨rfl, Nat.le_of_ble_eq_true rfl⟩ | (cases v <;> exact ⟨rfl, Nat.le_of_ble_eq_true rfl⟩)) k
  conv => whnf
  refine ACalls.inn (c___ref04_Reader__S_p (W.bindE h) (fun v4 h => ?_)) ⟨rfl, rfl⟩
  conv => whnf
  refine ACalls.inn (c___ref09_In__note_p (W.bindE h) (fun v5 h => ?_)) ⟨rfl, rfl⟩
  conv => whnf
  refine ASeq.go tab_ok mixed_ ?_
  conv => whnf
  refine ACalls.inn (c_ref01_Fits (W.bindE h) (fun v6 h => ?_)) ⟨rfl, rfl⟩
  conv => whnf
  refine XSplit.mk (fun e => ?_) (fun e => ?_)
  · replace h := XSplit.t h e
    conv => whnf
    refine ACalls.inn (c___ref09_In__note_p (W.bindE h) (fun v7 h => ?_)) ⟨rfl, rfl⟩
    conv => whnf
    refine ⟨_, Weak.a ?_, ?_, h⟩; (conv => whnf); exact ⟨rfl, rfl, rfl, rfl, rfl⟩; exact rfl
  · replace h := XSplit.f h e
    conv => whnf
    refine ⟨_, Weak.a ?_, ?_, h⟩; (conv => whnf); exact ⟨rfl, rfl, rfl, rfl, rfl⟩; exact rfl

theorem c___ref04_Reader__N_p {a0 : Int} {a1 : Bool} {a2 : Rws} {a3 : Int} {a4 : Int} {a5 : Int} {a6 : Int} {a7 : Int} {Q : Int × Rws × Int → Prop} {R : AV → List AB → Prop} (h : (g___ref04_Reader__N_p a0 a1 a2 a3 a4 a5 a6 a7).run Q) (k : ∀ r, Q r → R (.int .i64 (r.fst)) ([.box 85 [.sl (a1) 5 (r.snd.fst), .int .i64 (r.snd.snd), .int .i64 (a4), .int .i64 (a5), .int .i64 (a6), .int .i64 (a7)]])) : ACalls Try.prog tab 60 [.ptr 0 0, .int .i64 (a0)] [.box 85 [.sl (a1) 5 (a2), .int .i64 (a3), .int .i64 (a4), .int .i64 (a5), .int .i64 (a6), .int .i64 (a7)]] R := by
  refine ACalls.out (fun r => .int .i64 (r.fst)) (fun r => [.box 85 [.sl (a1) 5 (r.snd.fst), .int .i64 (r.snd.snd), .int .i64 (a4), .int .i64 (a5), .int .i64 (a6), .int .i64 (a7)]]) (Q := Q) (ACalls.introX (mv := mv) tab_ok mixed_ (fn := Try.f60) (by kernel_rfl) rfl (by kernel_rfl) (by kernel_rfl) (Nat.le_of_ble_eq_true rfl) ?_) (fun v => by first | exact ⟨rfl, Nat.le_of_ble_eq_true rfl⟩ | (cases v <;> exact ⟨rfl, Nat.le_of_ble_eq_true rfl⟩)) k
  conv => whnf
  refine ASeq.go tab_ok mixed_ ?_
  conv => whnf
  refine XSplit.mk (fun e => ?_) (fun e => ?_)
  · replace h := XSplit.t h e
    conv => whnf
    refine ⟨_, Weak.a ?_, ?_, h⟩; (conv => whnf); exact ⟨rfl, rfl, rfl, rfl, rfl⟩; exact rfl
  · replace h := XSplit.f h e
    conv => whnf
    refine ACalls.inn (c_ref04_Get (W.bindE h) (fun v2 h => ?_)) ⟨rfl, rfl⟩
    conv => whnf
    refine ASeq.joinW tab_ok mixed_ (fun v3 => ⟨[(0, .ptr 0 0), (4, .int .i64 (0)), (5, .int .u64 (v2.fst)), (6, .int .i64 (v2.snd.fst)), (7, .int .i64 (v3))], [(0, .box 85 [.sl (a1) 5 (a2), .int .i64 (a3), .int .i64 (a4), .int .i64 (a5), .int .i64 (a6), .int .i64 (a7)])], 1, [], []⟩) h (fun Q h => ?_) (fun v3 h => ?_)
    · conv => whnf
      refine XSplit.mk (fun e => ?_) (fun e => ?_)
      · replace h := XSplit.t h e
        conv => whnf
        refine ⟨_, Weak.a ?_, h⟩; (conv => whnf); exact ⟨rfl, rfl, rfl, rfl, rfl⟩
      · replace h := XSplit.f h e
        conv => whnf
        refine ⟨_, Weak.a ?_, h⟩; (conv => whnf); exact ⟨rfl, rfl, rfl, rfl, rfl⟩
    · conv => whnf
      refine ASeq.go tab_ok mixed_ ?_
      conv => whnf
      refine XSplit.mk (fun e => ?_) (fun e => ?_)
      · replace h := XSplit.t h e
        conv => whnf
        refine ⟨_, Weak.a ?_, ?_, h⟩; (conv => whnf); exact ⟨rfl, rfl, rfl, rfl, rfl⟩; exact rfl
      · replace h := XSplit.f h e
        conv => whnf
        refine XNeed.mk (XNeed.c h) ?_; replace h := XNeed.x h
        conv => whnf
        refine ⟨_, Weak.a ?_, ?_, h⟩; (conv => whnf); exact ⟨rfl, rfl, rfl, rfl, rfl⟩; exact rfl

theorem c___ref09_In__N_p {a0 : Int} {a1 : Bool} {a2 : Rws} {a3 : Int} {a4 : Int} {a5 : Int} {a6 : Int} {a7 : Int} {Q : Int × Rws × Int × Int × Int × Int → Prop} {R : AV → List AB → Prop} (h : (g___ref09_In__N_p a0 a1 a2 a3 a4 a5 a6 a7).run Q) (k : ∀ r, Q r → R (.int .i64 (r.fst)) ([.box 85 [.sl (a1) 5 (r.snd.fst), .int .i64 (r.snd.snd.fst), .int .i64 (a4), .int .i64 (r.snd.snd.snd.fst), .int .i64 (r.snd.snd.snd.snd.fst), .int .i64 (r.snd.snd.snd.snd.snd)]])) : ACalls Try.prog tab 41 [.ptr 0 0, .int .i64 (a0)] [.box 85 [.sl (a1) 5 (a2), .int .i64 (a3), .int .i64 (a4), .int .i64 (a5), .int .i64 (a6), .int .i64 (a7)]] R := by
  refine ACalls.out (fun r => .int .i64 (r.fst)) (fun r => [.box 85 [.sl (a1) 5 (r.snd.fst), .int .i64 (r.snd.snd.fst), .int .i64 (a4), .int .i64 (r.snd.snd.snd.fst), .int .i64 (r.snd.snd.snd.snd.fst), .int .i64 (r.snd.snd.snd.snd.snd)]]) (Q := Q) (ACalls.introX (mv := mv) tab_ok mixed_ (fn := Try.f41) (by kernel_rfl) rfl (by kernel_rfl) (by kernel_rfl) (Nat.le_of_ble_eq_true rfl) ?_) (fun v => by first | exact ⟨rfl, Nat.le_of_ble_eq_true rfl⟩ | (cases v <;> exact ⟨rfl, Nat.le_of_ble_eq_true rfl⟩)) k
  conv => whnf
  refine ACalls.inn (c___ref04_Reader__N_p (W.bindE h) (fun v2 h => ?_)) ⟨rfl, rfl⟩
  conv => whnf
  refine ACalls.inn (c___ref09_In__note_p (W.bindE h) (fun v3 h => ?_)) ⟨rfl, rfl⟩
  conv => whnf
  refine ⟨_, Weak.a ?_, ?_, h⟩; (conv => whnf); exact ⟨rfl, rfl, rfl, rfl, rfl⟩; exact rfl

theorem c___ref09_In__window_p {a0 : Bool} {a1 : Rws} {a2 : Int} {a3 : Int} {a4 : Int} {a5 : Int} {a6 : Int} {Q : Int × Int × Int × Int × Int × Int × Int × Int × Rws × Int × Int × Int × Int → Prop} {R : AV → List AB → Prop} (h : (g___ref09_In__window_p a0 a1 a2 a3 a4 a5 a6).run Q) (k : ∀ r, Q r → R (.agg [.int .i64 (r.fst), .int .i64 (r.snd.fst), .int .i64 (r.snd.snd.fst), .int .i64 (r.snd.snd.snd.fst), .int .i64 (r.snd.snd.snd.snd.fst), .int .i64 (r.snd.snd.snd.snd.snd.fst), .int .i64 (r.snd.snd.snd.snd.snd.snd.fst), .int .i64 (r.snd.snd.snd.snd.snd.snd.snd.fst)]) ([.box 85 [.sl (a0) 5 (r.snd.snd.snd.snd.snd.snd.snd.snd.fst), .int .i64 (r.snd.snd.snd.snd.snd.snd.snd.snd.snd.fst), .int .i64 (a3), .int .i64 (r.snd.snd.snd.snd.snd.snd.snd.snd.snd.snd.fst), .int .i64 (r.snd.snd.snd.snd.snd.snd.snd.snd.snd.snd.snd.fst), .int .i64 (r.snd.snd.snd.snd.snd.snd.snd.snd.snd.snd.snd.snd)]])) : ACalls Try.prog tab 61 [.ptr 0 0] [.box 85 [.sl (a0) 5 (a1), .int .i64 (a2), .int .i64 (a3), .int .i64 (a4), .int .i64 (a5), .int .i64 (a6)]] R := by
  refine ACalls.out (fun r => .agg [.int .i64 (r.fst), .int .i64 (r.snd.fst), .int .i64 (r.snd.snd.fst), .int .i64 (r.snd.snd.snd.fst), .int .i64 (r.snd.snd.snd.snd.fst), .int .i64 (r.snd.snd.snd.snd.snd.fst), .int .i64 (r.snd.snd.snd.snd.snd.snd.fst), .int .i64 (r.snd.snd.snd.snd.snd.snd.snd.fst)]) (fun r => [.box 85 [.sl (a0) 5 (r.snd.snd.snd.snd.snd.snd.snd.snd.fst), .int .i64 (r.snd.snd.snd.snd.snd.snd.snd.snd.snd.fst), .int .i64 (a3), .int .i64 (r.snd.snd.snd.snd.snd.snd.snd.snd.snd.snd.fst), .int .i64 (r.snd.snd.snd.snd.snd.snd.snd.snd.snd.snd.snd.fst), .int .i64 (r.snd.snd.snd.snd.snd.snd.snd.snd.snd.snd.snd.snd)]]) (Q := Q) (ACalls.introX (mv := mv) tab_ok mixed_ (fn := Try.f61) (by kernel_rfl) rfl (by kernel_rfl) (by kernel_rfl) (Nat.le_of_ble_eq_true rfl) ?_) (fun v => by first | exact ⟨rfl, Nat.le_of_ble_eq_true rfl⟩ | (cases v <;> exact ⟨rfl, Nat.le_of_ble_eq_true rfl⟩)) k
  conv => whnf
  refine ACalls.inn (c___ref09_In__U_p (W.bindE h) (fun v8 h => ?_)) ⟨rfl, rfl⟩
  conv => whnf
  refine ACalls.inn (c___ref09_In__U_p (W.bindE h) (fun v9 h => ?_)) ⟨rfl, rfl⟩
  conv => whnf
  refine ACalls.inn (c___ref09_In__U_p (W.bindE h) (fun v10 h => ?_)) ⟨rfl, rfl⟩
  conv => whnf
  refine ACalls.inn (c___ref09_In__U_p (W.bindE h) (fun v11 h => ?_)) ⟨rfl, rfl⟩
  conv => whnf
  refine ACalls.inn (c___ref09_In__U_p (W.bindE h) (fun v12 h => ?_)) ⟨rfl, rfl⟩
  conv => whnf
  refine ACalls.inn (c___ref09_In__U_p (W.bindE h) (fun v13 h => ?_)) ⟨rfl, rfl⟩
  conv => whnf
  refine ACalls.inn (c___ref09_In__U_p (W.bindE h) (fun v14 h => ?_)) ⟨rfl, rfl⟩
  conv => whnf
  refine ACalls.inn (c___ref09_In__U_p (W.bindE h) (fun v15 h => ?_)) ⟨rfl, rfl⟩
  conv => whnf
  refine ⟨_, Weak.a ?_, ?_, h⟩; (conv => whnf); exact ⟨rfl, rfl, rfl, rfl, rfl⟩; exact rfl

theorem c___ref09_In__scale_p {a0 : Bool} {a1 : Rws} {a2 : Int} {a3 : Int} {a4 : Int} {a5 : Int} {a6 : Int} {Q : Int × Int × Rws × Int × Int × Int × Int → Prop} {R : AV → List AB → Prop} (h : (g___ref09_In__scale_p a0 a1 a2 a3 a4 a5 a6).run Q) (k : ∀ r, Q r → R (.agg [.int .i64 (r.fst), .int .i64 (r.snd.fst)]) ([.box 85 [.sl (a0) 5 (r.snd.snd.fst), .int .i64 (r.snd.snd.snd.fst), .int .i64 (a3), .int .i64 (r.snd.snd.snd.snd.fst), .int .i64 (r.snd.snd.snd.snd.snd.fst), .int .i64 (r.snd.snd.snd.snd.snd.snd)]])) : ACalls Try.prog tab 62 [.ptr 0 0] [.box 85 [.sl (a0) 5 (a1), .int .i64 (a2), .int .i64 (a3), .int .i64 (a4), .int .i64 (a5), .int .i64 (a6)]] R := by
  refine ACalls.out (fun r => .agg [.int .i64 (r.fst), .int .i64 (r.snd.fst)]) (fun r => [.box 85 [.sl (a0) 5 (r.snd.snd.fst), .int .i64 (r.snd.snd.snd.fst), .int .i64 (a3), .int .i64 (r.snd.snd.snd.snd.fst), .int .i64 (r.snd.snd.snd.snd.snd.fst), .int .i64 (r.snd.snd.snd.snd.snd.snd)]]) (Q := Q) (ACalls.introX (mv := mv) tab_ok mixed_ (fn := Try.f62) (by kernel_rfl) rfl (by kernel_rfl) (by kernel_rfl) (Nat.le_of_ble_eq_true rfl) ?_) (fun v => by first | exact ⟨rfl, Nat.le_of_ble_eq_true rfl⟩ | (cases v <;> exact ⟨rfl, Nat.le_of_ble_eq_true rfl⟩)) k
  conv => whnf
  refine ACalls.inn (c___ref09_In__U_p (W.bindE h) (fun v2 h => ?_)) ⟨rfl, rfl⟩
  conv => whnf
  refine ACalls.inn (c___ref09_In__U_p (W.bindE h) (fun v3 h => ?_)) ⟨rfl, rfl⟩
  conv => whnf
  refine ⟨_, Weak.a ?_, ?_, h⟩; (conv => whnf); exact ⟨rfl, rfl, rfl, rfl, rfl⟩; exact rfl

theorem c___ref09_In__op_p {a0 : Bool} {a1 : Rws} {a2 : Int} {a3 : Int} {a4 : Int} {a5 : Int} {a6 : Int} {Q : Int × Int × Int × Int × Int × Int × Int × Int × Int × Int × Int × Int × Int × Int × Int × Int × Int × Int × Int × Int × Rws × Int × Int × Int × Int × Bool × Rws × Bool × Rws → Prop} {R : AV → List AB → Prop} (h : (g___ref09_In__op_p a0 a1 a2 a3 a4 a5 a6).run Q) (k : ∀ r, Q r → R (.agg [.int .i64 (r.fst), .int .i64 (r.snd.fst), .int .i64 (r.snd.snd.fst), .int .i64 (r.snd.snd.snd.fst), .int .i64 (r.snd.snd.snd.snd.fst), .int .i64 (r.snd.snd.snd.snd.snd.fst), .int .i64 (r.snd.snd.snd.snd.snd.snd.fst), .int .i64 (r.snd.snd.snd.snd.snd.snd.snd.fst), .int .i64 (r.snd.snd.snd.snd.snd.snd.snd.snd.fst), .int .i64 (r.snd.snd.snd.snd.snd.snd.snd.snd.snd.fst), .int .i64 (r.snd.snd.snd.snd.snd.snd.snd.snd.snd.snd.fst), .int .i64 (r.snd.snd.snd.snd.snd.snd.snd.snd.snd.snd.snd.fst), .own 1, .own 2, .int .i64 (r.snd.snd.snd.snd.snd.snd.snd.snd.snd.snd.snd.snd.fst), .int .i64 (r.snd.snd.snd.snd.snd.snd.snd.snd.snd.snd.snd.snd.snd.fst), .int .i64 (r.snd.snd.snd.snd.snd.snd.snd.snd.snd.snd.snd.snd.snd.snd.fst), .int .i64 (r.snd.snd.snd.snd.snd.snd.snd.snd.snd.snd.snd.snd.snd.snd.snd.fst), .int .i64 (r.snd.snd.snd.snd.snd.snd.snd.snd.snd.snd.snd.snd.snd.snd.snd.snd.fst), .int .i64 (r.snd.snd.snd.snd.snd.snd.snd.snd.snd.snd.snd.snd.snd.snd.snd.snd.snd.fst), .int .i64 (r.snd.snd.snd.snd.snd.snd.snd.snd.snd.snd.snd.snd.snd.snd.snd.snd.snd.snd.fst), .int .i64 (r.snd.snd.snd.snd.snd.snd.snd.snd.snd.snd.snd.snd.snd.snd.snd.snd.snd.snd.snd.fst)]) ([.box 85 [.sl (a0) 5 (r.snd.snd.snd.snd.snd.snd.snd.snd.snd.snd.snd.snd.snd.snd.snd.snd.snd.snd.snd.snd.fst), .int .i64 (r.snd.snd.snd.snd.snd.snd.snd.snd.snd.snd.snd.snd.snd.snd.snd.snd.snd.snd.snd.snd.snd.fst), .int .i64 (a3), .int .i64 (r.snd.snd.snd.snd.snd.snd.snd.snd.snd.snd.snd.snd.snd.snd.snd.snd.snd.snd.snd.snd.snd.snd.fst), .int .i64 (r.snd.snd.snd.snd.snd.snd.snd.snd.snd.snd.snd.snd.snd.snd.snd.snd.snd.snd.snd.snd.snd.snd.snd.fst), .int .i64 (r.snd.snd.snd.snd.snd.snd.snd.snd.snd.snd.snd.snd.snd.snd.snd.snd.snd.snd.snd.snd.snd.snd.snd.snd.fst)], .arr true 51 (r.snd.snd.snd.snd.snd.snd.snd.snd.snd.snd.snd.snd.snd.snd.snd.snd.snd.snd.snd.snd.snd.snd.snd.snd.snd.fst) (r.snd.snd.snd.snd.snd.snd.snd.snd.snd.snd.snd.snd.snd.snd.snd.snd.snd.snd.snd.snd.snd.snd.snd.snd.snd.snd.fst), .arr true 21 (r.snd.snd.snd.snd.snd.snd.snd.snd.snd.snd.snd.snd.snd.snd.snd.snd.snd.snd.snd.snd.snd.snd.snd.snd.snd.snd.snd.fst) (r.snd.snd.snd.snd.snd.snd.snd.snd.snd.snd.snd.snd.snd.snd.snd.snd.snd.snd.snd.snd.snd.snd.snd.snd.snd.snd.snd.snd)])) : ACalls Try.prog tab 42 [.ptr 0 0] [.box 85 [.sl (a0) 5 (a1), .int .i64 (a2), .int .i64 (a3), .int .i64 (a4), .int .i64 (a5), .int .i64 (a6)]] R := by
  refine ACalls.out (fun r => .agg [.int .i64 (r.fst), .int .i64 (r.snd.fst), .int .i64 (r.snd.snd.fst), .int .i64 (r.snd.snd.snd.fst), .int .i64 (r.snd.snd.snd.snd.fst), .int .i64 (r.snd.snd.snd.snd.snd.fst), .int .i64 (r.snd.snd.snd.snd.snd.snd.fst), .int .i64 (r.snd.snd.snd.snd.snd.snd.snd.fst), .int .i64 (r.snd.snd.snd.snd.snd.snd.snd.snd.fst), .int .i64 (r.snd.snd.snd.snd.snd.snd.snd.snd.snd.fst), .int .i64 (r.snd.snd.snd.snd.snd.snd.snd.snd.snd.snd.fst), .int .i64 (r.snd.snd.snd.snd.snd.snd.snd.snd.snd.snd.snd.fst), .own 1, .own 2, .int .i64 (r.snd.snd.snd.snd.snd.snd.snd.snd.snd.snd.snd.snd.fst), .int .i64 (r.snd.snd.snd.snd.snd.snd.snd.snd.snd.snd.snd.snd.snd.fst), .int .i64 (r.snd.snd.snd.snd.snd.snd.snd.snd.snd.snd.snd.snd.snd.snd.fst), .int .i64 (r.snd.snd.snd.snd.snd.snd.snd.snd.snd.snd.snd.snd.snd.snd.snd.fst), .int .i64 (r.snd.snd.snd.snd.snd.snd.snd.snd.snd.snd.snd.snd.snd.snd.snd.snd.fst), .int .i64 (r.snd.snd.snd.snd.snd.snd.snd.snd.snd.snd.snd.snd.snd.snd.snd.snd.snd.fst), .int .i64 (r.snd.snd.snd.snd.snd.snd.snd.snd.snd.snd.snd.snd.snd.snd.snd.snd.snd.snd.fst), .int .i64 (r.snd.snd.snd.snd.snd.snd.snd.snd.snd.snd.snd.snd.snd.snd.snd.snd.snd.snd.snd.fst)]) (fun r => [.box 85 [.sl (a0) 5 (r.snd.snd.snd.snd.snd.snd.snd.snd.snd.snd.snd.snd.snd.snd.snd.snd.snd.snd.snd.snd.fst), .int .i64 (r.snd.snd.snd.snd.snd.snd.snd.snd.snd.snd.snd.snd.snd.snd.snd.snd.snd.snd.snd.snd.snd.fst), .int .i64 (a3), .int .i64 (r.snd.snd.snd.snd.snd.snd.snd.snd.snd.snd.snd.snd.snd.snd.snd.snd.snd.snd.snd.snd.snd.snd.fst), .int .i64 (r.snd.snd.snd.snd.snd.snd.snd.snd.snd.snd.snd.snd.snd.snd.snd.snd.snd.snd.snd.snd.snd.snd.snd.fst), .int .i64 (r.snd.snd.snd.snd.snd.snd.snd.snd.snd.snd.snd.snd.snd.snd.snd.snd.snd.snd.snd.snd.snd.snd.snd.snd.fst)], .arr true 51 (r.snd.snd.snd.snd.snd.snd.snd.snd.snd.snd.snd.snd.snd.snd.snd.snd.snd.snd.snd.snd.snd.snd.snd.snd.snd.fst) (r.snd.snd.snd.snd.snd.snd.snd.snd.snd.snd.snd.snd.snd.snd.snd.snd.snd.snd.snd.snd.snd.snd.snd.snd.snd.snd.fst), .arr true 21 (r.snd.snd.snd.snd.snd.snd.snd.snd.snd.snd.snd.snd.snd.snd.snd.snd.snd.snd.snd.snd.snd.snd.snd.snd.snd.snd.snd.fst) (r.snd.snd.snd.snd.snd.snd.snd.snd.snd.snd.snd.snd.snd.snd.snd.snd.snd.snd.snd.snd.snd.snd.snd.snd.snd.snd.snd.snd)]) (Q := Q) (ACalls.introX (mv := mv) tab_ok mixed_ (fn := Try.f42) (by kernel_rfl) rfl (by kernel_rfl) (by kernel_rfl) (Nat.le_of_ble_eq_true rfl) ?_) (fun v => by first | exact ⟨rfl, Nat.le_of_ble_eq_true rfl⟩ | (cases v <;> exact ⟨rfl, Nat.le_of_ble_eq_true rfl⟩)) k
  conv => whnf
  refine ACalls.inn (c___ref09_In__U_p (W.bindE h) (fun v19 h => ?_)) ⟨rfl, rfl⟩
  conv => whnf
  refine ACalls.inn (c___ref09_In__U_p (W.bindE h) (fun v20 h => ?_)) ⟨rfl, rfl⟩
  conv => whnf
  refine ACalls.inn (c___ref09_In__U_p (W.bindE h) (fun v21 h => ?_)) ⟨rfl, rfl⟩
  conv => whnf
  refine ACalls.inn (c___ref09_In__U_p (W.bindE h) (fun v22 h => ?_)) ⟨rfl, rfl⟩
  conv => whnf
  refine ACalls.inn (c___ref09_In__window_p (W.bindE h) (fun v23 h => ?_)) ⟨rfl, rfl⟩
  conv => whnf
  refine ACalls.inn (c___ref09_In__N_p (W.bindE h) (fun v24 h => ?_)) ⟨rfl, rfl⟩
  conv => whnf
  refine ASeq.go tab_ok mixed_ ?_
  conv => whnf
  refine ALoop.ofW tab_ok mixed_ (fun v25 => ⟨[(0, .ptr 0 0), (2, .ptr 1 0), (3, .ptr 2 0), (4, .int .i64 (v24.fst)), (5, .int .i64 (v25.fst))], [(0, .box 85 [.sl (a0) 5 (v25.snd.fst), .int .i64 (v25.snd.snd.fst), .int .i64 (a3), .int .i64 (v25.snd.snd.snd.fst), .int .i64 (v25.snd.snd.snd.snd.fst), .int .i64 (v25.snd.snd.snd.snd.snd.fst)]), (1, .box 50 [.int .i64 (0), .int .i64 (0), .int .i64 (0), .int .i64 (0), .int .i64 (0), .int .i64 (0), .int .i64 (0), .int .i64 (0), .int .i64 (0), .int .i64 (0), .int .i64 (0), .int .i64 (0), .nils, .nils, .int .i64 (0), .int .i64 (0), .int .i64 (0), .int .i64 (0), .int .i64 (0), .int .i64 (0), .int .i64 (0), .int .i64 (0)]), (2, .box 50 [.int .i64 (v19.fst), .int .i64 (v20.fst), .int .i64 (v21.fst), .int .i64 (v22.fst), .int .i64 (v23.fst), .int .i64 (v23.snd.fst), .int .i64 (v23.snd.snd.fst), .int .i64 (v23.snd.snd.snd.fst), .int .i64 (v23.snd.snd.snd.snd.fst), .int .i64 (v23.snd.snd.snd.snd.snd.fst), .int .i64 (v23.snd.snd.snd.snd.snd.snd.fst), .int .i64 (v23.snd.snd.snd.snd.snd.snd.snd.fst), .own 3, .nils, .int .i64 (0), .int .i64 (0), .int .i64 (0), .int .i64 (0), .int .i64 (0), .int .i64 (0), .int .i64 (0), .int .i64 (0)]), (3, .arr true 51 (v25.snd.snd.snd.snd.snd.snd.fst) (v25.snd.snd.snd.snd.snd.snd.snd))], 4, [], []⟩) (fun v26 => (.exit 0, ⟨[(0, .ptr 0 0), (2, .ptr 1 0), (3, .ptr 2 0), (4, .int .i64 (v24.fst))], [(0, .box 85 [.sl (a0) 5 (v26.fst), .int .i64 (v26.snd.fst), .int .i64 (a3), .int .i64 (v26.snd.snd.fst), .int .i64 (v26.snd.snd.snd.fst), .int .i64 (v26.snd.snd.snd.snd.fst)]), (1, .box 50 [.int .i64 (0), .int .i64 (0), .int .i64 (0), .int .i64 (0), .int .i64 (0), .int .i64 (0), .int .i64 (0), .int .i64 (0), .int .i64 (0), .int .i64 (0), .int .i64 (0), .int .i64 (0), .nils, .nils, .int .i64 (0), .int .i64 (0), .int .i64 (0), .int .i64 (0), .int .i64 (0), .int .i64 (0), .int .i64 (0), .int .i64 (0)]), (2, .box 50 [.int .i64 (v19.fst), .int .i64 (v20.fst), .int .i64 (v21.fst), .int .i64 (v22.fst), .int .i64 (v23.fst), .int .i64 (v23.snd.fst), .int .i64 (v23.snd.snd.fst), .int .i64 (v23.snd.snd.snd.fst), .int .i64 (v23.snd.snd.snd.snd.fst), .int .i64 (v23.snd.snd.snd.snd.snd.fst), .int .i64 (v23.snd.snd.snd.snd.snd.snd.fst), .int .i64 (v23.snd.snd.snd.snd.snd.snd.snd.fst), .own 3, .nils, .int .i64 (0), .int .i64 (0), .int .i64 (0), .int .i64 (0), .int .i64 (0), .int .i64 (0), .int .i64 (0), .int .i64 (0)]), (3, .arr true 51 (v26.snd.snd.snd.snd.snd.fst) (v26.snd.snd.snd.snd.snd.snd))], 4, [], []⟩)) (W.bindE h) (Weak.a ?_) (fun v25 J_ Q h => ?_) (fun v26 h => ?_)
  · conv => whnf
    exact ⟨rfl, rfl, rfl, rfl, rfl⟩
  · conv => whnf
    refine ASeq.go tab_ok mixed_ ?_
    conv => whnf
    refine XSplit.mk (fun e => ?_) (fun e => ?_)
    · replace h := XSplit.t h e
      conv => whnf
      refine ASeq.go tab_ok mixed_ ?_
      conv => whnf
      refine XDraw.d [0, 1, 2, 3, 4, 5, 6, 7, 8] [[], [], [], [0], [4], [], [3], [], [2]] (by decide +kernel) ?_
      conv => whnf
      refine ACalls.inn (c___ref09_In__S_p (W.bindE h) (fun v27 h => ?_)) ⟨rfl, rfl⟩
      conv => whnf
      refine XNeed.mk (XNeed.c h) ?_; replace h := XNeed.x h
      conv => whnf
      refine ⟨_, Weak.a ?_, h⟩; (conv => whnf); exact ⟨rfl, rfl, rfl, rfl, rfl⟩
    · replace h := XSplit.f h e
      conv => whnf
      refine ⟨_, ?_, Weak.a ?_, h⟩; exact rfl; (conv => whnf); exact ⟨rfl, rfl, rfl, rfl, rfl⟩
  · conv => whnf
    refine ACalls.inn (c___ref09_In__N_p (W.bindE h) (fun v28 h => ?_)) ⟨rfl, rfl⟩
    conv => whnf
    refine ASeq.go tab_ok mixed_ ?_
    conv => whnf
    refine ALoop.ofW tab_ok mixed_ (fun v29 => ⟨[(0, .ptr 0 0), (2, .ptr 1 0), (3, .ptr 2 0), (4, .int .i64 (v28.fst)), (6, .int .i64 (v29.fst))], [(0, .box 85 [.sl (a0) 5 (v29.snd.fst), .int .i64 (v29.snd.snd.fst), .int .i64 (a3), .int .i64 (v29.snd.snd.snd.fst), .int .i64 (v29.snd.snd.snd.snd.fst), .int .i64 (v29.snd.snd.snd.snd.snd.fst)]), (1, .box 50 [.int .i64 (0), .int .i64 (0), .int .i64 (0), .int .i64 (0), .int .i64 (0), .int .i64 (0), .int .i64 (0), .int .i64 (0), .int .i64 (0), .int .i64 (0), .int .i64 (0), .int .i64 (0), .nils, .nils, .int .i64 (0), .int .i64 (0), .int .i64 (0), .int .i64 (0), .int .i64 (0), .int .i64 (0), .int .i64 (0), .int .i64 (0)]), (2, .box 50 [.int .i64 (v19.fst), .int .i64 (v20.fst), .int .i64 (v21.fst), .int .i64 (v22.fst), .int .i64 (v23.fst), .int .i64 (v23.snd.fst), .int .i64 (v23.snd.snd.fst), .int .i64 (v23.snd.snd.snd.fst), .int .i64 (v23.snd.snd.snd.snd.fst), .int .i64 (v23.snd.snd.snd.snd.snd.fst), .int .i64 (v23.snd.snd.snd.snd.snd.snd.fst), .int .i64 (v23.snd.snd.snd.snd.snd.snd.snd.fst), .own 3, .own 4, .int .i64 (0), .int .i64 (0), .int .i64 (0), .int .i64 (0), .int .i64 (0), .int .i64 (0), .int .i64 (0), .int .i64 (0)]), (3, .arr true 51 (v26.snd.snd.snd.snd.snd.fst) (v26.snd.snd.snd.snd.snd.snd)), (4, .arr true 21 (v29.snd.snd.snd.snd.snd.snd.fst) (v29.snd.snd.snd.snd.snd.snd.snd))], 5, [], []⟩) (fun v30 => (.exit 2, ⟨[(0, .ptr 0 0), (2, .ptr 1 0), (3, .ptr 2 0)], [(0, .box 85 [.sl (a0) 5 (v30.fst), .int .i64 (v30.snd.fst), .int .i64 (a3), .int .i64 (v30.snd.snd.fst), .int .i64 (v30.snd.snd.snd.fst), .int .i64 (v30.snd.snd.snd.snd.fst)]), (1, .box 50 [.int .i64 (0), .int .i64 (0), .int .i64 (0), .int .i64 (0), .int .i64 (0), .int .i64 (0), .int .i64 (0), .int .i64 (0), .int .i64 (0), .int .i64 (0), .int .i64 (0), .int .i64 (0), .nils, .nils, .int .i64 (0), .int .i64 (0), .int .i64 (0), .int .i64 (0), .int .i64 (0), .int .i64 (0), .int .i64 (0), .int .i64 (0)]), (2, .box 50 [.int .i64 (v19.fst), .int .i64 (v20.fst), .int .i64 (v21.fst), .int .i64 (v22.fst), .int .i64 (v23.fst), .int .i64 (v23.snd.fst), .int .i64 (v23.snd.snd.fst), .int .i64 (v23.snd.snd.snd.fst), .int .i64 (v23.snd.snd.snd.snd.fst), .int .i64 (v23.snd.snd.snd.snd.snd.fst), .int .i64 (v23.snd.snd.snd.snd.snd.snd.fst), .int .i64 (v23.snd.snd.snd.snd.snd.snd.snd.fst), .own 3, .own 4, .int .i64 (0), .int .i64 (0), .int .i64 (0), .int .i64 (0), .int .i64 (0), .int .i64 (0), .int .i64 (0), .int .i64 (0)]), (3, .arr true 51 (v26.snd.snd.snd.snd.snd.fst) (v26.snd.snd.snd.snd.snd.snd)), (4, .arr true 21 (v30.snd.snd.snd.snd.snd.fst) (v30.snd.snd.snd.snd.snd.snd))], 5, [], []⟩)) (W.bindE h) (Weak.a ?_) (fun v29 J_ Q h => ?_) (fun v30 h => ?_)
    · conv => whnf
      exact ⟨rfl, rfl, rfl, rfl, rfl⟩
    · conv => whnf
      refine ASeq.go tab_ok mixed_ ?_
      conv => whnf
      refine XSplit.mk (fun e => ?_) (fun e => ?_)
      · replace h := XSplit.t h e
        conv => whnf
        refine ASeq.go tab_ok mixed_ ?_
        conv => whnf
        refine XDraw.d [0, 1, 2, 3, 4, 5, 6, 7, 8] [[], [], [], [0], [5], [], [4], [], [2]] (by decide +kernel) ?_
        conv => whnf
        refine ACalls.inn (c___ref09_In__S_p (W.bindE h) (fun v31 h => ?_)) ⟨rfl, rfl⟩
        conv => whnf
        refine XNeed.mk (XNeed.c h) ?_; replace h := XNeed.x h
        conv => whnf
        refine ⟨_, Weak.a ?_, h⟩; (conv => whnf); exact ⟨rfl, rfl, rfl, rfl, rfl⟩
      · replace h := XSplit.f h e
        conv => whnf
        refine ⟨_, ?_, Weak.a ?_, h⟩; exact rfl; (conv => whnf); exact ⟨rfl, rfl, rfl, rfl, rfl⟩
    · conv => whnf
      refine ACalls.inn (c___ref09_In__scale_p (W.bindE h) (fun v32 h => ?_)) ⟨rfl, rfl⟩
      conv => whnf
      refine ACalls.inn (c___ref09_In__scale_p (W.bindE h) (fun v33 h => ?_)) ⟨rfl, rfl⟩
      conv => whnf
      refine ACalls.inn (c___ref09_In__S_p (W.bindE h) (fun v34 h => ?_)) ⟨rfl, rfl⟩
      conv => whnf
      refine ACalls.inn (c___ref09_In__S_p (W.bindE h) (fun v35 h => ?_)) ⟨rfl, rfl⟩
      conv => whnf
      refine ACalls.inn (c___ref09_In__S_p (W.bindE h) (fun v36 h => ?_)) ⟨rfl, rfl⟩
      conv => whnf
      refine ACalls.inn (c___ref09_In__S_p (W.bindE h) (fun v37 h => ?_)) ⟨rfl, rfl⟩
      conv => whnf
      refine ⟨_, Weak.a ?_, ?_, h⟩; (conv => whnf); exact ⟨rfl, rfl, rfl, rfl, rfl⟩; exact rfl

theorem c___ref04_Reader__End_p {a0 : Bool} {a1 : Rws} {a2 : Int} {a3 : Int} {a4 : Int} {a5 : Int} {a6 : Int} {Q : Int → Prop} {R : AV → List AB → Prop} (h : (g___ref04_Reader__End_p a0 a1 a2 a3 a4 a5 a6).run Q) (k : ∀ r, Q r → R (.int .i64 (r)) ([.box 85 [.sl (a0) 5 (a1), .int .i64 (a2), .int .i64 (a3), .int .i64 (a4), .int .i64 (a5), .int .i64 (a6)]])) : ACalls Try.prog tab 44 [.ptr 0 0] [.box 85 [.sl (a0) 5 (a1), .int .i64 (a2), .int .i64 (a3), .int .i64 (a4), .int .i64 (a5), .int .i64 (a6)]] R := by
  refine ACalls.out (fun r => .int .i64 (r)) (fun r => [.box 85 [.sl (a0) 5 (a1), .int .i64 (a2), .int .i64 (a3), .int .i64 (a4), .int .i64 (a5), .int .i64 (a6)]]) (Q := Q) (ACalls.introX (mv := mv) tab_ok mixed_ (fn := Try.f44) (by kernel_rfl) rfl (by kernel_rfl) (by kernel_rfl) (Nat.le_of_ble_eq_true rfl) ?_) (fun v => by first | exact ⟨rfl, Nat.le_of_ble_eq_true rfl⟩ | (cases v <;> exact ⟨rfl, Nat.le_of_ble_eq_true rfl⟩)) k
  conv => whnf
  refine ASeq.go tab_ok mixed_ ?_
  conv => whnf
  refine XSplit.mk (fun e => ?_) (fun e => ?_)
  · replace h := XSplit.t h e
    conv => whnf
    refine ⟨_, Weak.a ?_, ?_, h⟩; (conv => whnf); exact ⟨rfl, rfl, rfl, rfl, rfl⟩; exact rfl
  · replace h := XSplit.f h e
    conv => whnf
    refine ⟨_, Weak.a ?_, ?_, h⟩; (conv => whnf); exact ⟨rfl, rfl, rfl, rfl, rfl⟩; exact rfl
end Go.Proofs.Ytpoakneeceaooaa.V09

set_option linter.unusedVariables false
set_option maxRecDepth 100000
set_option maxHeartbeats 0
namespace Go.Proofs.Ytpoakneeceaooaa.V09
open Go.Proofs Go.Proofs.Ytpoakneeceaooaa.VX
theorem c_ref09_Decode {a0 : Bool} {a1 : Rws} {Q : Int × Int × Int × Int × Int × Int × Int × Int × Int × Bool × Rws → Prop} {R : AV → List AB → Prop} (h : (g_ref09_Decode a0 a1).run Q) (k : ∀ r, Q r → R (.tup [.agg [.int .i64 (r.fst), .int .i64 (r.snd.fst), .int .i64 (r.snd.snd.fst), .int .i64 (r.snd.snd.snd.fst), .int .i64 (r.snd.snd.snd.snd.fst), .own 0, .int .i64 (r.snd.snd.snd.snd.snd.fst)], .agg [.int .i64 (r.snd.snd.snd.snd.snd.snd.fst), .int .i64 (r.snd.snd.snd.snd.snd.snd.snd.fst), .int .i64 (r.snd.snd.snd.snd.snd.snd.snd.snd.fst)]]) ([.arr true 50 (r.snd.snd.snd.snd.snd.snd.snd.snd.snd.fst) (r.snd.snd.snd.snd.snd.snd.snd.snd.snd.snd)])) : ACalls Try.prog tab 16 [.sl (a0) 5 (a1)] [] R := by
  refine ACalls.out (fun r => .tup [.agg [.int .i64 (r.fst), .int .i64 (r.snd.fst), .int .i64 (r.snd.snd.fst), .int .i64 (r.snd.snd.snd.fst), .int .i64 (r.snd.snd.snd.snd.fst), .own 0, .int .i64 (r.snd.snd.snd.snd.snd.fst)], .agg [.int .i64 (r.snd.snd.snd.snd.snd.snd.fst), .int .i64 (r.snd.snd.snd.snd.snd.snd.snd.fst), .int .i64 (r.snd.snd.snd.snd.snd.snd.snd.snd.fst)]]) (fun r => [.arr true 50 (r.snd.snd.snd.snd.snd.snd.snd.snd.snd.fst) (r.snd.snd.snd.snd.snd.snd.snd.snd.snd.snd)]) (Q := Q) (ACalls.introX (mv := mv) tab_ok mixed_ (fn := Try.f16) (by kernel_rfl) rfl (by kernel_rfl) (by kernel_rfl) (Nat.le_of_ble_eq_true rfl) ?_) (fun v => by first | exact ⟨rfl, Nat.le_of_ble_eq_true rfl⟩ | (cases v <;> exact ⟨rfl, Nat.le_of_ble_eq_true rfl⟩)) k
  conv => whnf
  refine ACalls.inn (c_ref09_Front (W.bindE h) (fun v14 h => ?_)) ⟨rfl, rfl⟩
  conv => whnf
  refine ASeq.go tab_ok mixed_ ?_
  conv => whnf
  refine XSplit.mk (fun e => ?_) (fun e => ?_)
  · replace h := XSplit.t h e
    conv => whnf
    refine ⟨_, Weak.a ?_, ?_, h⟩; (conv => whnf); exact ⟨rfl, rfl, rfl, rfl, rfl⟩; exact rfl
  · replace h := XSplit.f h e
    conv => whnf
    refine ACalls.inn (c___ref09_In__U_p (W.bindE h) (fun v15 h => ?_)) ⟨rfl, rfl⟩
    conv => whnf
    refine ACalls.inn (c___ref09_In__U_p (W.bindE h) (fun v16 h => ?_)) ⟨rfl, rfl⟩
    conv => whnf
    refine ACalls.inn (c___ref09_In__U_p (W.bindE h) (fun v17 h => ?_)) ⟨rfl, rfl⟩
    conv => whnf
    refine ACalls.inn (c___ref09_In__S_p (W.bindE h) (fun v18 h => ?_)) ⟨rfl, rfl⟩
    conv => whnf
    refine ACalls.inn (c___ref09_In__S_p (W.bindE h) (fun v19 h => ?_)) ⟨rfl, rfl⟩
    conv => whnf
    refine ACalls.inn (c___ref09_In__N_p (W.bindE h) (fun v20 h => ?_)) ⟨rfl, rfl⟩
    conv => whnf
    refine ASeq.go tab_ok mixed_ ?_
    conv => whnf
    refine ALoop.ofW tab_ok mixed_ (fun v21 => ⟨[(2, .ptr 0 0), (3, .ptr 1 0), (6, .ptr 2 0), (7, .ptr 3 0), (8, .int .i64 (v20.fst)), (9, .int .i64 (v21.fst))], [(0, .box 26 [.int .i64 (0), .int .i64 (0), .int .i64 (0), .int .i64 (0), .int .i64 (0), .nils, .int .i64 (0)]), (1, .box 31 [.int .i64 (0), .int .i64 (0), .int .i64 (0)]), (2, .box 85 [.sl (v14.fst) 5 (v21.snd.fst), .int .i64 (v21.snd.snd.fst), .int .i64 (v21.snd.snd.snd.fst), .int .i64 (v21.snd.snd.snd.snd.fst), .int .i64 (v21.snd.snd.snd.snd.snd.fst), .int .i64 (v21.snd.snd.snd.snd.snd.snd.fst)]), (3, .box 26 [.int .i64 (v15.fst), .int .i64 (v16.fst), .int .i64 (v17.fst), .int .i64 (v18.fst), .int .i64 (v19.fst), .own 4, .int .i64 (0)]), (4, .arr true 50 (v21.snd.snd.snd.snd.snd.snd.snd.fst) (v21.snd.snd.snd.snd.snd.snd.snd.snd))], 5, [], []⟩) (fun v22 => (.exit 0, ⟨[(2, .ptr 0 0), (3, .ptr 1 0), (6, .ptr 2 0), (7, .ptr 3 0)], [(0, .box 26 [.int .i64 (0), .int .i64 (0), .int .i64 (0), .int .i64 (0), .int .i64 (0), .nils, .int .i64 (0)]), (1, .box 31 [.int .i64 (0), .int .i64 (0), .int .i64 (0)]), (2, .box 85 [.sl (v14.fst) 5 (v22.fst), .int .i64 (v22.snd.fst), .int .i64 (v22.snd.snd.fst), .int .i64 (v22.snd.snd.snd.fst), .int .i64 (v22.snd.snd.snd.snd.fst), .int .i64 (v22.snd.snd.snd.snd.snd.fst)]), (3, .box 26 [.int .i64 (v15.fst), .int .i64 (v16.fst), .int .i64 (v17.fst), .int .i64 (v18.fst), .int .i64 (v19.fst), .own 4, .int .i64 (0)]), (4, .arr true 50 (v22.snd.snd.snd.snd.snd.snd.fst) (v22.snd.snd.snd.snd.snd.snd.snd))], 5, [], []⟩)) (W.bindE h) (Weak.a ?_) (fun v21 J_ Q h => ?_) (fun v22 h => ?_)
    · conv => whnf
      exact ⟨rfl, rfl, rfl, rfl, rfl⟩
    · conv => whnf
      refine ASeq.go tab_ok mixed_ ?_
      conv => whnf
      refine XSplit.mk (fun e => ?_) (fun e => ?_)
      · replace h := XSplit.t h e
        conv => whnf
        refine ASeq.go tab_ok mixed_ ?_
        conv => whnf
        refine XDraw.d [0, 1, 2, 3, 4, 5, 6, 7] [[], [], [], [2], [], [4], [], [3]] (by decide +kernel) ?_
        conv => whnf
        refine ACalls.inn (c___ref09_In__op_p (W.bindE h) (fun v23 h => ?_)) ⟨rfl, rfl⟩
        conv => whnf
        refine XNeed.mk (XNeed.c h) ?_; replace h := XNeed.x h
        conv => whnf
        refine ⟨_, Weak.a ?_, h⟩; (conv => whnf); exact ⟨rfl, rfl, rfl, rfl, rfl⟩
      · replace h := XSplit.f h e
        conv => whnf
        refine ⟨_, ?_, Weak.a ?_, h⟩; exact rfl; (conv => whnf); exact ⟨rfl, rfl, rfl, rfl, rfl⟩
    · conv => whnf
      refine ACalls.inn (c___ref09_In__U_p (W.bindE h) (fun v24 h => ?_)) ⟨rfl, rfl⟩
      conv => whnf
      refine ACalls.inn (c___ref04_Reader__End_p (W.bindE h) (fun v25 h => ?_)) ⟨rfl, rfl⟩
      conv => whnf
      refine ACalls.inn (c___ref09_In__note_p (W.bindE h) (fun v26 h => ?_)) ⟨rfl, rfl⟩
      conv => whnf
      refine ASeq.go tab_ok mixed_ ?_
      conv => whnf
      refine XSplit.mk (fun e => ?_) (fun e => ?_)
      · replace h := XSplit.t h e
        conv => whnf
        refine XDraw.d [0, 1, 2, 3, 4, 5, 6] [[], [], [], [], [], [0], [1]] (by decide +kernel) ?_
        conv => whnf
        refine ⟨_, Weak.a ?_, ?_, h⟩; (conv => whnf); exact ⟨rfl, rfl, rfl, rfl, rfl⟩; exact rfl
      · replace h := XSplit.f h e
        conv => whnf
        refine ACalls.inn (c_ref08_Check (W.bindE h) (fun v27 h => ?_)) ⟨rfl, rfl⟩
        conv => whnf
        refine ASeq.go tab_ok mixed_ ?_
        conv => whnf
        refine XSplit.mk (fun e => ?_) (fun e => ?_)
        · replace h := XSplit.t h e
          conv => whnf
          refine XDraw.d [0, 1, 2, 3] [[], [], [0], [1]] (by decide +kernel) ?_
          conv => whnf
          refine ⟨_, Weak.a ?_, ?_, h⟩; (conv => whnf); exact ⟨rfl, rfl, rfl, rfl, rfl⟩; exact rfl
        · replace h := XSplit.f h e
          conv => whnf
          refine ⟨_, Weak.a ?_, ?_, h⟩; (conv => whnf); exact ⟨rfl, rfl, rfl, rfl, rfl⟩; exact rfl

theorem c_law09_PackDecodes {a0 : Bool} {a1 : Rws} {Q : Bool → Prop} {R : AV → List AB → Prop} (h : (g_law09_PackDecodes a0 a1).run Q) (k : ∀ r, Q r → R (.bool (r)) ([])) : ACalls Try.prog tab 4 [.sl (a0) 5 (a1)] [] R := by
  refine ACalls.out (fun r => .bool (r)) (fun r => []) (Q := Q) (ACalls.introX (mv := mv) tab_ok mixed_ (fn := Try.f4) (by kernel_rfl) rfl (by kernel_rfl) (by kernel_rfl) (Nat.le_of_ble_eq_true rfl) ?_) (fun v => by first | exact ⟨rfl, Nat.le_of_ble_eq_true rfl⟩ | (cases v <;> exact ⟨rfl, Nat.le_of_ble_eq_true rfl⟩)) k
  conv => whnf
  refine XNeed.mk (XNeed.c h) ?_; replace h := XNeed.x h
  conv => whnf
  refine ACalls.inn (c_pack_Decode (W.bindE h) (fun v6 h => ?_)) ⟨rfl, rfl⟩
  conv => whnf
  refine ACalls.inn (c_ref09_Decode (W.bindE h) (fun v7 h => ?_)) ⟨rfl, rfl⟩
  conv => whnf
  refine ASeq.joinW tab_ok mixed_ (fun v8 => ⟨[(2, .bool (v8))], [], 0, [], []⟩) h (fun Q h => ?_) (fun v8 h => ?_)
  · conv => whnf
    refine ACalls.inn (c_law09_fixed (W.bindE h) (fun v9 h => ?_)) ⟨rfl, rfl⟩
    conv => whnf
    refine XSplit.mk (fun e => ?_) (fun e => ?_)
    · replace h := XSplit.t h e
      conv => whnf
      refine ACalls.inn (c_ref08_Same (W.bindE h) (fun v10 h => ?_)) ⟨rfl, rfl⟩
      conv => whnf
      refine XSplit.mk (fun e => ?_) (fun e => ?_)
      · replace h := XSplit.t h e
        conv => whnf
        refine ACalls.inn (c_law09_same (W.bindE h) (fun v11 h => ?_)) ⟨rfl, rfl⟩
        conv => whnf
        refine ⟨_, Weak.a ?_, h⟩; (conv => whnf); exact ⟨rfl, rfl, rfl, rfl, rfl⟩
      · replace h := XSplit.f h e
        conv => whnf
        refine ⟨_, Weak.a ?_, h⟩; (conv => whnf); exact ⟨rfl, rfl, rfl, rfl, rfl⟩
    · replace h := XSplit.f h e
      conv => whnf
      refine ⟨_, Weak.a ?_, h⟩; (conv => whnf); exact ⟨rfl, rfl, rfl, rfl, rfl⟩
  · conv => whnf
    refine ⟨_, Weak.a ?_, ?_, h⟩; (conv => whnf); exact ⟨rfl, rfl, rfl, rfl, rfl⟩; exact rfl

theorem c_law09_PackBack {a0 : Int} {a1 : Int} {a2 : Int} {a3 : Int} {a4 : Int} {a5 : Bool} {a6 : Rws} {a7 : Int} {Q : Bool → Prop} {R : AV → List AB → Prop} (h : (g_law09_PackBack a0 a1 a2 a3 a4 a5 a6 a7).run Q) (k : ∀ r, Q r → R (.bool (r)) ([])) : ACalls Try.prog tab 5 [.agg [.int .i64 (a0), .int .i64 (a1), .int .i64 (a2), .int .i64 (a3), .int .i64 (a4), .sl (a5) 50 (a6), .int .i64 (a7)]] [] R := by
  refine ACalls.out (fun r => .bool (r)) (fun r => []) (Q := Q) (ACalls.introX (mv := mv) tab_ok mixed_ (fn := Try.f5) (by kernel_rfl) rfl (by kernel_rfl) (by kernel_rfl) (Nat.le_of_ble_eq_true rfl) ?_) (fun v => by first | exact ⟨rfl, Nat.le_of_ble_eq_true rfl⟩ | (cases v <;> exact ⟨rfl, Nat.le_of_ble_eq_true rfl⟩)) k
  conv => whnf
  refine ACalls.inn (c_pack_Encode (W.bindE h) (fun v6 h => ?_)) ⟨rfl, rfl⟩
  conv => whnf
  refine ASeq.go tab_ok mixed_ ?_
  conv => whnf
  refine ACalls.inn (c_law09_fixed (W.bindE h) (fun v7 h => ?_)) ⟨rfl, rfl⟩
  conv => whnf
  refine XSplit.mk (fun e => ?_) (fun e => ?_)
  · replace h := XSplit.t h e
    conv => whnf
    refine ACalls.inn (c_law09_fixed (W.bindE h) (fun v8 h => ?_)) ⟨rfl, rfl⟩
    conv => whnf
    refine ⟨_, Weak.a ?_, ?_, h⟩; (conv => whnf); exact ⟨rfl, rfl, rfl, rfl, rfl⟩; exact rfl
  · replace h := XSplit.f h e
    conv => whnf
    refine ACalls.inn (c_pack_Decode (W.bindE h) (fun v9 h => ?_)) ⟨rfl, rfl⟩
    conv => whnf
    refine ASeq.joinW tab_ok mixed_ (fun v10 => ⟨[(2, .bool (v10))], [], 0, [], []⟩) h (fun Q h => ?_) (fun v10 h => ?_)
    · conv => whnf
      refine XSplit.mk (fun e => ?_) (fun e => ?_)
      · replace h := XSplit.t h e
        conv => whnf
        refine ACalls.inn (c_ref08_Same (W.bindE h) (fun v11 h => ?_)) ⟨rfl, rfl⟩
        conv => whnf
        refine ⟨_, Weak.a ?_, h⟩; (conv => whnf); exact ⟨rfl, rfl, rfl, rfl, rfl⟩
      · replace h := XSplit.f h e
        conv => whnf
        refine ⟨_, Weak.a ?_, h⟩; (conv => whnf); exact ⟨rfl, rfl, rfl, rfl, rfl⟩
    · conv => whnf
      refine ⟨_, Weak.a ?_, ?_, h⟩; (conv => whnf); exact ⟨rfl, rfl, rfl, rfl, rfl⟩; exact rfl

theorem c_law09_PackForms {a0 : Bool} {a1 : Rws} {Q : Bool → Prop} {R : AV → List AB → Prop} (h : (g_law09_PackForms a0 a1).run Q) (k : ∀ r, Q r → R (.bool (r)) ([])) : ACalls Try.prog tab 6 [.sl (a0) 5 (a1)] [] R := by
  refine ACalls.out (fun r => .bool (r)) (fun r => []) (Q := Q) (ACalls.introX (mv := mv) tab_ok mixed_ (fn := Try.f6) (by kernel_rfl) rfl (by kernel_rfl) (by kernel_rfl) (Nat.le_of_ble_eq_true rfl) ?_) (fun v => by first | exact ⟨rfl, Nat.le_of_ble_eq_true rfl⟩ | (cases v <;> exact ⟨rfl, Nat.le_of_ble_eq_true rfl⟩)) k
  conv => whnf
  refine ACalls.inn (c_pack_Decode (W.bindE h) (fun v8 h => ?_)) ⟨rfl, rfl⟩
  conv => whnf
  refine ASeq.go tab_ok mixed_ ?_
  conv => whnf
  refine ACalls.inn (c_law09_fixed (W.bindE h) (fun v9 h => ?_)) ⟨rfl, rfl⟩
  conv => whnf
  refine XSplit.mk (fun e => ?_) (fun e => ?_)
  · replace h := XSplit.t h e
    conv => whnf
    refine ASeq.joinW tab_ok mixed_ (fun v10 => ⟨[(2, .bool (v10))], [], 0, [], []⟩) h (fun Q h => ?_) (fun v10 h => ?_)
    · conv => whnf
      refine ACalls.inn (c_law09_fixed (W.bindE h) (fun v11 h => ?_)) ⟨rfl, rfl⟩
      conv => whnf
      refine XSplit.mk (fun e => ?_) (fun e => ?_)
      · replace h := XSplit.t h e
        conv => whnf
        refine ACalls.inn (c_ref08_Same (W.bindE h) (fun v12 h => ?_)) ⟨rfl, rfl⟩
        conv => whnf
        refine ⟨_, Weak.a ?_, h⟩; (conv => whnf); exact ⟨rfl, rfl, rfl, rfl, rfl⟩
      · replace h := XSplit.f h e
        conv => whnf
        refine ⟨_, Weak.a ?_, h⟩; (conv => whnf); exact ⟨rfl, rfl, rfl, rfl, rfl⟩
    · conv => whnf
      refine ⟨_, Weak.a ?_, ?_, h⟩; (conv => whnf); exact ⟨rfl, rfl, rfl, rfl, rfl⟩; exact rfl
  · replace h := XSplit.f h e
    conv => whnf
    refine ACalls.inn (c_pack_Encode (W.bindE h) (fun v13 h => ?_)) ⟨rfl, rfl⟩
    conv => whnf
    refine ASeq.joinW tab_ok mixed_ (fun v14 => ⟨[(2, .bool (v14))], [], 0, [], []⟩) h (fun Q h => ?_) (fun v14 h => ?_)
    · conv => whnf
      refine XSplit.mk (fun e => ?_) (fun e => ?_)
      · replace h := XSplit.t h e
        conv => whnf
        refine ACalls.inn (c_law09_same (W.bindE h) (fun v15 h => ?_)) ⟨rfl, rfl⟩
        conv => whnf
        refine ⟨_, Weak.a ?_, h⟩; (conv => whnf); exact ⟨rfl, rfl, rfl, rfl, rfl⟩
      · replace h := XSplit.f h e
        conv => whnf
        refine ⟨_, Weak.a ?_, h⟩; (conv => whnf); exact ⟨rfl, rfl, rfl, rfl, rfl⟩
    · conv => whnf
      refine ⟨_, Weak.a ?_, ?_, h⟩; (conv => whnf); exact ⟨rfl, rfl, rfl, rfl, rfl⟩; exact rfl

theorem c_law09_PackCuts {a0 : Int} {a1 : Int} {a2 : Int} {a3 : Int} {a4 : Int} {a5 : Bool} {a6 : Rws} {a7 : Int} {a8 : Int} {a9 : Int} {Q : Bool → Prop} {R : AV → List AB → Prop} (h : (g_law09_PackCuts a0 a1 a2 a3 a4 a5 a6 a7 a8 a9).run Q) (k : ∀ r, Q r → R (.bool (r)) ([])) : ACalls Try.prog tab 7 [.agg [.int .i64 (a0), .int .i64 (a1), .int .i64 (a2), .int .i64 (a3), .int .i64 (a4), .sl (a5) 50 (a6), .int .i64 (a7)], .int .i64 (a8), .int .u8 (a9)] [] R := by
  refine ACalls.out (fun r => .bool (r)) (fun r => []) (Q := Q) (ACalls.introX (mv := mv) tab_ok mixed_ (fn := Try.f7) (by kernel_rfl) rfl (by kernel_rfl) (by kernel_rfl) (Nat.le_of_ble_eq_true rfl) ?_) (fun v => by first | exact ⟨rfl, Nat.le_of_ble_eq_true rfl⟩ | (cases v <;> exact ⟨rfl, Nat.le_of_ble_eq_true rfl⟩)) k
  conv => whnf
  refine ACalls.inn (c_pack_Encode (W.bindE h) (fun v8 h => ?_)) ⟨rfl, rfl⟩
  conv => whnf
  refine ASeq.go tab_ok mixed_ ?_
  conv => whnf
  refine ACalls.inn (c_law09_fixed (W.bindE h) (fun v9 h => ?_)) ⟨rfl, rfl⟩
  conv => whnf
  refine XSplit.mk (fun e => ?_) (fun e => ?_)
  · replace h := XSplit.t h e
    conv => whnf
    refine ACalls.inn (c_law09_fixed (W.bindE h) (fun v10 h => ?_)) ⟨rfl, rfl⟩
    conv => whnf
    refine ⟨_, Weak.a ?_, ?_, h⟩; (conv => whnf); exact ⟨rfl, rfl, rfl, rfl, rfl⟩; exact rfl
  · replace h := XSplit.f h e
    conv => whnf
    refine XNeed.mk (XNeed.c h) ?_; replace h := XNeed.x h
    conv => whnf
    refine XNeed.mk (XNeed.c h) ?_; replace h := XNeed.x h
    conv => whnf
    refine ACalls.inn (c_pack_Decode (W.bindE h) (fun v11 h => ?_)) ⟨rfl, rfl⟩
    conv => whnf
    refine XNeed.mk (XNeed.c h) ?_; replace h := XNeed.x h
    conv => whnf
    refine XNeed.mk (XNeed.c h) ?_; replace h := XNeed.x h
    conv => whnf
    refine ACalls.inn (c_pack_Decode (W.bindE h) (fun v12 h => ?_)) ⟨rfl, rfl⟩
    conv => whnf
    refine ASeq.joinW tab_ok mixed_ (fun v13 => ⟨[(6, .bool (v13))], [], 0, [], []⟩) h (fun Q h => ?_) (fun v13 h => ?_)
    · conv => whnf
      refine XSplit.mk (fun e => ?_) (fun e => ?_)
      · replace h := XSplit.t h e
        conv => whnf
        refine ACalls.inn (c_ref08_Same (W.bindE h) (fun v14 h => ?_)) ⟨rfl, rfl⟩
        conv => whnf
        refine XSplit.mk (fun e => ?_) (fun e => ?_)
        · replace h := XSplit.t h e
          conv => whnf
          refine ACalls.inn (c_ref08_Same (W.bindE h) (fun v15 h => ?_)) ⟨rfl, rfl⟩
          conv => whnf
          refine ⟨_, Weak.a ?_, h⟩; (conv => whnf); exact ⟨rfl, rfl, rfl, rfl, rfl⟩
        · replace h := XSplit.f h e
          conv => whnf
          refine ⟨_, Weak.a ?_, h⟩; (conv => whnf); exact ⟨rfl, rfl, rfl, rfl, rfl⟩
      · replace h := XSplit.f h e
        conv => whnf
        refine ⟨_, Weak.a ?_, h⟩; (conv => whnf); exact ⟨rfl, rfl, rfl, rfl, rfl⟩
    · conv => whnf
      refine ⟨_, Weak.a ?_, ?_, h⟩; (conv => whnf); exact ⟨rfl, rfl, rfl, rfl, rfl⟩; exact rfl
end Go.Proofs.Ytpoakneeceaooaa.V09
