-- by this session's xprint.py over the kit's print
import Derived.Test.YtbepmlgpapdnpaaPX0
namespace Go.Proofs.Ytbepmlgpapdnpaa.PX
open Go.RowKit Go.Proofs.YtbepmlgpapdnpaaW.PrintWords Go.Proofs.YtbepmlgpapdnpaaW.PrintLast Go.Proofs.YtbepmlgpapdnpaaW.PrintMore
attribute [local go_sem] max2_int min2_int max_two min_two max_three min_three max_four min_four   -- for this text's walks alone
set_option linter.unusedVariables false
set_option linter.unusedSimpArgs false

/-! ### rdstate: function 28 -/
structure RD (w : World) (g h : Nat) (A : Option Addr) (c : Nat) (bs : List Int) (at_ : Nat) (bad : Int) : Prop where
  hg : w.heap[g]? = some (.cells #[.pointer (some ⟨h, 0, none⟩), .int .i64 bad] 63 (0, 0))
  hh : w.heap[h]? = some (.cells #[.slice A bs.length c, .int .i64 (at_ : Int)] 61 (0, 0))
  hc : bs.length ≤ c
  hr : (Kd.int .u8).C w A bs.length bs
  ha : ∀ ad, A = some ad → 0 < bs.length → ad.block ≠ g ∧ ad.block ≠ h
  hat : at_ ≤ bs.length
  hb : ∀ x ∈ bs, 0 ≤ x ∧ x < 256
theorem RD.hne {w : World} {g h : Nat} {A : Option Addr} {c : Nat} {bs : List Int} {at_ : Nat} {bad : Int} (r : RD w g h A c bs at_ bad) : g ≠ h := blk_ne r.hg r.hh (by decide)
theorem RD.hlen {w : World} {g h : Nat} {A : Option Addr} {c : Nat} {bs : List Int} {at_ : Nat} {bad : Int} (r : RD w g h A c bs at_ bad) : bs.length ≤ 9223372036854775807 := r.hr.2.1
/-- What is read of a row of bytes stays read where its block stays. -/
theorem C_block_same {α : Type} {enc : α → Value} {h1 : ∀ x, (enc x).oneCell' = true} {w w' : World} {A : Option Addr} {n : Nat} {xs : List α} (h : (Kd.scalar enc h1).C w A n xs) (hs : ∀ ad, A = some ad → 0 < n → w'.heap[ad.block]? = w.heap[ad.block]?) : (Kd.scalar enc h1).C w' A n xs := by
  refine ⟨h.1, h.2.1, fun hn => ?_⟩
  obtain ⟨ad, e, hc⟩ := h.2.2 hn
  refine ⟨ad, e, fun j p hj => ?_⟩
  obtain ⟨cs, h3, h4, h5⟩ := hc j p hj
  refine ⟨cs, h3, h4, fun i u hu => ?_⟩
  rw [World.cell?_of_block (w := w) (w' := w') (a := ad.add (j * _ + i)) (by rw [show (ad.add (j * (Kd.scalar enc h1).sz + i)).block = ad.block from by unfold Addr.add; split <;> rfl]; exact hs ad e hn)]
  exact h5 i u hu
theorem RD.keep {w w' : World} {g h : Nat} {A : Option Addr} {c : Nat} {bs : List Int} {at_ : Nat} {bad : Int} (r : RD w g h A c bs at_ bad) (hk : ∀ i, i < w.heap.size → w'.heap[i]? = w.heap[i]?) : RD w' g h A c bs at_ bad :=
  ⟨(hk g (blk_lt r.hg)).trans r.hg, (hk h (blk_lt r.hh)).trans r.hh, r.hc, C_block_same r.hr (fun ad e hn => by
    obtain ⟨ad', e', hc⟩ := r.hr.2.2 hn
    obtain rfl : ad = ad' := by rw [e] at e'; injection e'
    have hl : 0 < bs.length := hn
    obtain ⟨cs, h3, h4, h5⟩ := hc 0 bs[0] (List.getElem?_eq_getElem hl)
    have h6 := h5 0 _ (by rw [h4]; rfl)
    have h7 := World.block_lt_of_cell? w _ h6
    rw [show (ad.add (0 * (Kd.int .u8).sz + 0)).block = ad.block from by unfold Addr.add; split <;> rfl] at h7
    exact hk _ h7), r.ha, r.hat, r.hb⟩

end Go.Proofs.Ytbepmlgpapdnpaa.PX
