/- Regions that draw their order, with effects: what is known of the world may grow from operation to operation. -/
import Derived.Test.YtaghkmaelbgljaaVXn
namespace Go.Proofs.Ytaghkmaelbgljaa.VX
section
variable {P : Program} {ops : Array Oper} {Q : Exit → Act → World → Prop} {md : Region.Mode}

/-- Whatever order is picked from here on; S: what is known to last, which may grow. -/
def wpAnyF (P : Program) (md : Region.Mode) (ops : Array Oper) (Q : Exit → Act → World → Prop) : Nat → Array Bool → Act → World → (World → Prop) → Prop
  | 0, listed, a, w, _ => Region.ready md ops listed = [] ∧ Q .normal a w
  | fuel + 1, listed, a, w, S =>
    (Region.ready md ops listed = [] → Q .normal a w) ∧
    ∀ i ∈ Region.ready md ops listed, wpOp P ops Q i (fun a' w' => ∃ S' : World → Prop, (∀ x, S' x → S x) ∧ S' w' ∧ wpAnyF P md ops Q fuel (listed.setIfInBounds i true) a' w' S') a w

theorem wpAny_of_grown : ∀ (fuel : Nat) (listed : Array Bool) (a : Act) (w : World) (S : World → Prop), wpAnyF P md ops Q fuel listed a w S → wpAny P md ops Q fuel listed a w
  | 0, _, _, _, _, h => h
  | fuel + 1, _, _, _, _, h => ⟨h.1, fun i hi => wpOp_mono (fun a' w' ⟨S', _, _, h'⟩ => wpAny_of_grown fuel _ a' w' S' h') (h.2 i hi)⟩

theorem yields_sub {S S' : World → Prop} (hs : ∀ x, S' x → S x) {o : Oper} {v : Value} {a : Act} (h : YieldsIf P ops S o v a) : YieldsIf P ops S' o v a :=
  h.imp (fun ⟨h1, h2⟩ => ⟨h1, fun w hw => h2 w (hs w hw)⟩) id

theorem wpAnyF_first {i : Nat} {oi : Oper} {v : Value} (hi : ops[i]? = some oi) (hsel : ∀ (j : Nat) (o : Oper) cs b, ops[j]? = some o → o.op ≠ .select cs b)
    (hQ : ∀ c a w, Q (.panic c) (a.put oi.dst v) w → Q (.panic c) a w) :
    ∀ (fuel : Nat) (listed : Array Bool) (a : Act) (w : World) (S : World → Prop),
      (∀ j oj, ops[j]? = some oj → j ≠ i → listed.getD j true = false → (∀ e ∈ oj.after, Region.binds md e = true → e.on ≠ i) → oi.apart ops oj = true) →
      i ∈ Region.ready md ops listed → YieldsIf P ops S oi v a → S w →
      wpAnyF P md ops Q fuel (listed.setIfInBounds i true) (a.put oi.dst v) w S → wpAnyF P md ops Q (fuel + 1) listed a w S := by
  intro fuel
  induction fuel with
  | zero =>
    intro listed a w S _ hr hy hS H
    refine ⟨fun h => (by rw [h] at hr; cases hr), fun j hj => ?_⟩
    by_cases hji : j = i
    · subst hji; exact hy.wpOp hi hS ⟨S, fun _ => id, hS, H⟩
    · have := ready_mono hj hji
      rw [H.1] at this
      cases this
  | succ fuel ih =>
    intro listed a w S hfree hr hy hS H
    refine ⟨fun h => (by rw [h] at hr; cases hr), fun j hj => ?_⟩
    by_cases hji : j = i
    · subst hji; exact hy.wpOp hi hS ⟨S, fun _ => id, hS, H⟩
    · have h1 := H.2 j (ready_mono hj hji)
      obtain ⟨hjun, oj, hoj, hall⟩ := mem_ready.1 hj
      have hnot : ∀ e ∈ oj.after, Region.binds md e = true → e.on ≠ i := fun e he hb heq => by
        have h1 := hall e he hb
        have h0 := (mem_ready.1 hr).1
        rw [heq] at h1
        rcases Nat.lt_or_ge i listed.size with h' | h'
        · simp [h'] at h0 h1; rw [h0] at h1; cases h1
        · simp [Array.getElem?_eq_none h'] at h1
      have h2 := wpOp_putIf hoj (hfree j oj hoj hji hjun hnot) (fun cs b => hsel i oi cs b hi) (fun cs b => hsel j oj cs b hoj) hQ hy h1
      have hfree' : ∀ k ok, ops[k]? = some ok → k ≠ i → (listed.setIfInBounds j true).getD k true = false →
          (∀ e ∈ ok.after, Region.binds md e = true → e.on ≠ i) → oi.apart ops ok = true := fun k ok hk hki hun hno => by
        refine hfree k ok hk hki ?_ hno
        by_cases hjk : j = k
        · subst hjk; exact hjun
        · rw [getD_set_ne true hjk] at hun; exact hun
      refine wpOp_mono (fun a' w' h3 => ?_) h2
      obtain ⟨hy', S', hsub, hS', h3⟩ := h3
      refine ⟨S', hsub, hS', ih (listed.setIfInBounds j true) a' w' S' hfree' (ready_mono hr (Ne.symm hji)) (yields_sub hsub hy') hS' ?_⟩
      rw [Array.setIfInBounds_comm _ _ hji]
      exact h3

theorem wpAnyF_take {i : Nat} {oi : Oper} {v : Value} {fuel : Nat} {listed : Array Bool} {a : Act} {w : World} {S : World → Prop} (hi : ops[i]? = some oi)
    (hs : Region.noSelect ops = true) (hf : Region.free md ops listed i = true) (hr : (Region.ready md ops listed).contains i = true)
    (hQ : ∀ c a w, Q (.panic c) (a.put oi.dst v) w → Q (.panic c) a w) (hy : YieldsIf P ops S oi v a) (hS : S w)
    (h : wpAnyF P md ops Q fuel (listed.setIfInBounds i true) (a.put oi.dst v) w S) : wpAnyF P md ops Q (fuel + 1) listed a w S :=
  wpAnyF_first hi (Region.noSelect_spec hs) hQ fuel listed a w S (Region.free_spec hi hf) (by simpa using hr) hy hS h

theorem wpAnyF_one {i : Nat} {fuel : Nat} {listed : Array Bool} {a : Act} {w : World} {S : World → Prop} (hr : Region.ready md ops listed = [i])
    (h : wpOp P ops Q i (fun a' w' => ∃ S' : World → Prop, (∀ x, S' x → S x) ∧ S' w' ∧ wpAnyF P md ops Q fuel (listed.setIfInBounds i true) a' w' S') a w) : wpAnyF P md ops Q (fuel + 1) listed a w S :=
  ⟨fun h0 => (by rw [hr] at h0; cases h0), fun j hj => by rw [hr] at hj; cases List.mem_singleton.1 hj; exact h⟩

theorem wpAnyF_done {listed : Array Bool} {a : Act} {w : World} {S : World → Prop} (hr : Region.ready md ops listed = []) (h : Q .normal a w) :
    ∀ fuel, wpAnyF P md ops Q fuel listed a w S
  | 0 => ⟨hr, h⟩
  | _ + 1 => ⟨fun _ => h, by rw [hr]; simp⟩

theorem wp_region_grown {id : Nat} {a : Act} {w : World} {S : World → Prop} (hm : P.follows .mixedOrders = true)
    (h : wpAnyF P .any ops Q ops.size (Array.replicate ops.size false) a { w with drawn := w.drawn + 1 } S) : (Code.region id ops true).wp P Q a w :=
  wp_region_any hm (wpAny_of_grown _ _ _ _ _ h)
end
end Go.Proofs.Ytaghkmaelbgljaa.VX
