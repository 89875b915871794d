-- by this session's xprint.py over the kit's print
import Derived.Test.YtbepmlgpapdnpaaPX0
import Derived.Test.YtbepmlgpapdnpaaPXFgroww
import Derived.Test.YtbepmlgpapdnpaaPXFslicesClonebytebyte
import Derived.Test.YtbepmlgpapdnpaaPXFrdstate
namespace Go.Proofs.Ytbepmlgpapdnpaa.PX
open Go.RowKit Go.Proofs.YtbepmlgpapdnpaaW.PrintWords Go.Proofs.YtbepmlgpapdnpaaW.PrintLast Go.Proofs.YtbepmlgpapdnpaaW.PrintMore
attribute [local go_sem] max2_int min2_int max_two min_two max_three min_three max_four min_four   -- for this text's walks alone
set_option linter.unusedVariables false
set_option linter.unusedSimpArgs false

/-! ### readernew: function 28 -/
theorem Kd.R_reads_row {α : Type} {d : Kd α} {w : World} {e base : Nat} {ok : Nat → Prop} {A : Option Addr} {c : Nat} {xs : List α} (h : d.R e w base ok (.slice A xs.length c) xs) (hc : xs.length ≤ c) : d.C w A xs.length xs := by
  obtain ⟨A', c', h1, _, h2⟩ := Kd.R_reads h
  injection h1 with ha _ _
  rw [ha]
  exact h2
theorem Kd.R_block {α : Type} {d : Kd α} {w : World} {e base : Nat} {ok : Nat → Prop} {ad : Addr} {n c : Nat} {xs : List α} (h : d.R e w base ok (.slice (some ad) n c) xs) (hn : 0 < xs.length) : (Value.slice (some ad) n c).ownBlock = some ad.block := by
  obtain ⟨inner, ho⟩ := Kd.R_own h
  rcases ho.2 with ⟨h1, _⟩ | ⟨g, cap, cur, h1, _⟩
  · cases h1
  · injection h1 with ha _ _
    injection ha with ha
    rw [ha]; rfl
theorem Kd.R_baseN {α : Type} {d : Kd α} {w : World} {e base : Nat} {ok : Nat → Prop} {ad : Addr} {n c : Nat} {xs : List α} (h : d.R e w base ok (.slice (some ad) n c) xs) (hn : 0 < xs.length) : base ≤ ad.block := by
  obtain ⟨inner, ho⟩ := Kd.R_own h
  exact own_base ho ad.block (Kd.R_block h hn)
set_option maxHeartbeats 8000000 in
set_option maxRecDepth 100000 in
theorem readerNew_calls (w : World) (A0 : Option Addr) (c0 : Nat) (bs : List Int) (hr0 : (Kd.int .u8).C w A0 bs.length bs) (hc0 : bs.length ≤ c0) (hL : bs.length < 140737488355328) (hb : ∀ x ∈ bs, 0 ≤ x ∧ x < 256) :
    Calls Try.prog 16 #[.slice A0 bs.length c0] w fun e w' => ∃ g h A c, e = .returned (.pointer (some ⟨g, 0, none⟩)) ∧ RD w' g h A c bs 0 0 ∧ Below w.heap.size w w' ∧ w.heap.size ≤ g ∧ w.heap.size ≤ h ∧ (∀ ad, A = some ad → 0 < bs.length → w.heap.size ≤ ad.block) := by
  have CC := Aside0.mk (slices_Clone_byte_byte.calls A0 c0 bs bs w hr0 hc0 (by rw [slices_Clone_byte_byte.f, if_pos hL]))
  have HB := Aside0.mk hb
  clear hr0 hc0 hb
  go_enter Try.func16, Try.ntmps16
  go_wp2_with (go_at_call 27; (with_reducible refine CC.out.mono ?_); rintro e w1 ⟨v, rfl, hR, hB⟩; obtain ⟨A, c, rfl, hc⟩ := own_slice' hR; replace hR := Aside0.mk hR; replace hB := Aside0.mk hB)
  go_ret
  have hs := hB.out.size
  have hC := (Kd.R_reads_row hR.out hc)
  refine ⟨w1.heap.size + 1, w1.heap.size, A, c, rfl, ⟨blk_new' (by simp) _, blk_alloc (blk_new' rfl _) _, hc, Kd.C_below (Kd.C_below hC (below_alloc (Below.refl _ _) _)) (below_alloc (Below.refl _ _) _), ?_, Nat.zero_le _, HB.out⟩, below_alloc (below_alloc hB.out _) _, by omega, by omega, ?_⟩
  · intro ad e hn
    subst e
    have := Kd.R_lt hR.out ad.block (Kd.R_block hR.out hn)
    omega
  · intro ad e hn
    subst e
    exact Kd.R_baseN hR.out hn

end Go.Proofs.Ytbepmlgpapdnpaa.PX
