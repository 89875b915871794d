/- What a parameter of type []spillwaylaw04.Op reads as: a row of pairs of 64-bit numbers. -/
import Derived.Test.YtbepmlgpapdnpaaPX0
import Derived.Deep.SlicePairs
import Derived.WalkKit
import Derived.ProofKit
import Derived.OpenShut
import Derived.ShutString
import Derived.ChangeOld
import Derived.Below
import Derived.SizedLaws
namespace Go.Proofs.Ytbepmlgpapdnpaa.OpsOpen
set_option linter.unusedVariables false
open Go.ChangeShapes Go.WideShapes Go.ChangeAt Go.RowKit Go.Deep Go.Proofs.Ytbepmlgpapdnpaa.PX Go.Proofs.YtbepmlgpapdnpaaW.PrintWords
theorem int_of {H : Type} {enc : TypeId × Value → H} {W : World} {n : Nat} {V : Value} {d : DataW H} {p : List MemPlace} (h : DataW.trod enc Try.prog W 0 (fun _ => true) true n 3 [V] = some (d, p)) : ∃ N : Int, V = .int .i64 N ∧ (Lit.int .i64 N).wf = true := by
  obtain ⟨N, h1, h2, h3⟩ := DataW.trod_int Try.underlying3 h
  simp only [List.cons.injEq, and_true] at h1
  exact ⟨N, h1, h3⟩
theorem open_ops {H : Type} {enc : TypeId × Value → H} {W : World} {a : Option Addr} {len cap : Nat} {d : DataW H} {p : List MemPlace} (h : ∃ fuel, DataW.trod enc Try.prog W 0 (fun _ => true) true fuel 44 [.slice a len cap] = some (d, p)) :
    ∃ l2 : List S49, l2.length = len ∧ Kd.C k49 W a len l2 ∧ len ≤ cap ∧ ∀ x ∈ l2, (Lit.int .i64 x.f0).wf = true ∧ (Lit.int .i64 x.f1).wf = true := by
  obtain ⟨fuel, h⟩ := h
  rcases open_slice_pairs Try.underlying44 Try.underlying49 (by kernel_rfl) rfl rfl (by kernel_rfl) (by kernel_rfl) h with ⟨hc, _⟩ | ⟨ad, l, c, m, n, V0, V1, D0, D1, P0, P1, hc, _, hl, hm, hmm, _, hall⟩
  · simp only [List.cons.injEq, and_true, Value.slice.injEq] at hc
    obtain ⟨rfl, rfl, rfl⟩ := hc
    exact ⟨[], rfl, ⟨rfl, by omega, fun h => absurd h (by omega)⟩, by omega, fun x hx => by cases hx⟩
  · simp only [List.cons.injEq, and_true, Value.slice.injEq] at hc
    obtain ⟨rfl, rfl, rfl⟩ := hc
    have hlm : len ≤ m := by rw [hmm]; split <;> omega
    have e0 : ∀ i, ∃ N : Int, i < m → V0 i = .int .i64 N ∧ (Lit.int .i64 N).wf = true := fun i => by
      by_cases hi : i < m
      · obtain ⟨N, h1, h2⟩ := int_of (hall i hi).2.2.1
        exact ⟨N, fun _ => ⟨h1, h2⟩⟩
      · exact ⟨0, fun h => absurd h hi⟩
    have e1 : ∀ i, ∃ N : Int, i < m → V1 i = .int .i64 N ∧ (Lit.int .i64 N).wf = true := fun i => by
      by_cases hi : i < m
      · obtain ⟨N, h1, h2⟩ := int_of (hall i hi).2.2.2
        exact ⟨N, fun _ => ⟨h1, h2⟩⟩
      · exact ⟨0, fun h => absurd h hi⟩
    obtain ⟨N0, h0⟩ := Classical.axiomOfChoice e0
    obtain ⟨N1, h1⟩ := Classical.axiomOfChoice e1
    refine ⟨(List.range len).map fun i => ⟨N0 i, N1 i⟩, by simp, ⟨by simp, Nat.le_trans (Nat.le_trans hl hm) (by decide), fun _ => ⟨ad, rfl, fun j q hj => ?_⟩⟩, hl, fun x hx => ?_⟩
    · obtain ⟨hj1, hj2⟩ := List.getElem?_eq_some_iff.1 hj
      simp only [List.length_map, List.length_range] at hj1
      simp only [List.getElem_map, List.getElem_range] at hj2
      subst hj2
      refine ⟨_, rfl, k49_mk W _, fun i u hu => ?_⟩
      have hj3 : j < m := by omega
      match i, hu with
      | 0, hu =>
        injection hu with hu
        rw [← hu, ← (h0 j hj3).1]
        exact (hall j hj3).1
      | 1, hu =>
        injection hu with hu
        rw [← hu, ← (h1 j hj3).1]
        exact (hall j hj3).2.1
    · obtain ⟨i, hi, rfl⟩ := List.mem_map.1 hx
      have hi2 := List.mem_range.1 hi
      exact ⟨(h0 i (by omega)).2, (h1 i (by omega)).2⟩
end Go.Proofs.Ytbepmlgpapdnpaa.OpsOpen
