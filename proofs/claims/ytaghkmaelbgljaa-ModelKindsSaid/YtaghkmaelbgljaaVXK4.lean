import Derived.Test.YtaghkmaelbgljaaVXy
import Derived.Below
namespace Go.Proofs.Ytaghkmaelbgljaa.VX
open Go.Proofs
set_option maxRecDepth 100000
theorem t15 (k : Int) (R : AV → List AB → Prop) (h : ∀ b : Bool, b = (decide (1 ≤ k) && decide (k ≤ 4)) → R (.kb b) []) : ACalls Try.prog tab 15 [.int .i64 k] [] R := by
  refine ACalls.intro tab_ok mixed_ (fn := Try.f15) (by kernel_rfl) rfl (by kernel_rfl) (by kernel_rfl) (Nat.le_of_ble_eq_true rfl) ?_
  conv => whnf
  iterate 6 (all_goals (with_reducible (try (refine XSplit.mk (fun _ => ?_) (fun _ => ?_)))); all_goals try (conv => whnf))
  all_goals (refine h _ ?_; simp_all <;> omega)
theorem t16 (k : Int) (R : AV → List AB → Prop) (h : R (.bool (decide (1 ≤ k) && decide (k ≤ 4))) []) : ACalls Try.prog tab 16 [.int .i64 k] [] R := by
  refine ACalls.intro tab_ok mixed_ (fn := Try.f16) (by kernel_rfl) rfl (by kernel_rfl) (by kernel_rfl) (Nat.le_of_ble_eq_true rfl) ?_
  conv => whnf
  exact h
theorem t4 (k : Int) (R : AV → List AB → Prop) (h : ∀ b : Bool, b = true → R (.bool b) []) : ACalls Try.prog tab 4 [.int .i64 k] [] R := by
  refine ACalls.intro tab_ok mixed_ (fn := Try.f4) (by kernel_rfl) rfl (by kernel_rfl) (by kernel_rfl) (Nat.le_of_ble_eq_true rfl) ?_
  conv => whnf
  refine fixed_run _ ?_
  conv => whnf
  refine t15 k _ (fun b hb => ?_)
  conv => whnf
  refine t16 k _ ?_
  conv => whnf
  exact h _ (by rw [hb]; simp)

/-- What a contract says of a run, the caller's memory by its blocks. -/
theorem ACalls.run {P : Program} {T : Tab} {f : FuncId} {args : List AV} {b : Bool} (h : ACalls P T f args [] fun r _ => r = .bool b ∨ r = .kb b) {w : World} {vals : List Value} (hv : ∀ C : Cx, (∀ b, ¬ C.F b) → all2 (RpS T C (stOf []) w) args vals) :
    Calls P f vals.toArray w fun e w' => e = .returned (.bool b) ∧ Go.RowKit.Below w.heap.size w w' := by
  let C : Cx := { β := fun _ => 0, base := fun _ => none, cap := fun _ => 0, F := fun _ => False, G := fun b => b < w.heap.size, w0 := w, pin := fun _ => none, N := 0 }
  have hno : ∀ id, ownB C (stOf []).heap id = none := fun id => rfl
  have hHS : HS T C [] w := ⟨fun t => trivial, fun id => trivial, fun id _ => rfl, (fun id id' b h => by rw [hno] at h; cases h), (fun id b h => by rw [hno] at h; cases h), fun b h => ⟨h, rfl⟩, Nat.le_refl _, (fun id b h => by cases h), (fun p hp => by cases hp), rfl, rfl, fun b h => h.elim, ⟨rfl, rfl, rfl⟩⟩
  refine (h.calls C w vals hHS (hv C (fun _ h => h))).mono ?_
  rintro e w' ⟨r, h', v, C', rfl, hr, hk, hs, hrp, _, _⟩
  have hio := hs.io
  rw [hk.2.2.1] at hio
  refine ⟨?_, hio.1, hio.2.1, hio.2.2, ?_, fun g hg => ?_⟩
  · rcases hr with rfl | rfl
    · have : v = .bool b := hrp
      rw [this]
    · have : v = .bool b := hrp
      rw [this]
  · have := hs.ge
    rw [hk.2.2.1] at this
    exact this
  · have := (hs.g g (by rw [hk.2.1]; exact hg)).2
    rw [hk.2.2.1] at this
    exact this
theorem modelKinds_run (k : Int) (w : World) : Calls Try.prog 4 #[.int .i64 k] w fun e w' => e = .returned (.bool true) ∧ Go.RowKit.Below w.heap.size w w' :=
  ACalls.run (args := [.int .i64 k]) (vals := [.int .i64 k]) (t4 k _ fun b hb => .inl (by rw [hb])) (fun _ _ => ⟨rfl, trivial⟩)
end Go.Proofs.Ytaghkmaelbgljaa.VX
