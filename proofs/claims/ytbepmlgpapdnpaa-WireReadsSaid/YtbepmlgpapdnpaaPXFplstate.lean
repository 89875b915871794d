-- by this session's xprint.py over the kit's print
import Derived.Test.YtbepmlgpapdnpaaPX0
import Derived.Test.YtbepmlgpapdnpaaPXFrdstate
import Derived.Test.YtbepmlgpapdnpaaPXFvgetok
import Derived.Test.YtbepmlgpapdnpaaPXFreaderus
import Derived.Test.YtbepmlgpapdnpaaPXFreadern
import Derived.Test.YtbepmlgpapdnpaaPXFrefget
import Derived.Test.YtbepmlgpapdnpaaPXFrefu
namespace Go.Proofs.Ytbepmlgpapdnpaa.PX
open Go.RowKit Go.Proofs.YtbepmlgpapdnpaaW.PrintWords Go.Proofs.YtbepmlgpapdnpaaW.PrintLast Go.Proofs.YtbepmlgpapdnpaaW.PrintMore
attribute [local go_sem] max2_int min2_int max_two min_two max_three min_three max_four min_four   -- for this text's walks alone
set_option linter.unusedVariables false
set_option linter.unusedSimpArgs false

/-! ### plstate: function 21 -/
/-- All but the blocks g, h and q is as it was. -/
structure K3 (g h q : Nat) (w w' : World) : Prop where
  os : w'.os = w.os
  tape : w'.tape = w.tape
  output : w'.output = w.output
  size : w.heap.size ≤ w'.heap.size
  block : ∀ k, k < w.heap.size → k ≠ g → k ≠ h → k ≠ q → w'.heap[k]? = w.heap[k]?
theorem K3.refl (g h q : Nat) (w : World) : K3 g h q w w := ⟨rfl, rfl, rfl, Nat.le_refl _, fun _ _ _ _ _ => rfl⟩
theorem K3.trans {g h q : Nat} {a b c : World} (x : K3 g h q a b) (y : K3 g h q b c) : K3 g h q a c :=
  ⟨y.os.trans x.os, y.tape.trans x.tape, y.output.trans x.output, Nat.le_trans x.size y.size, fun k hk h1 h2 h3 => (y.block k (Nat.lt_of_lt_of_le hk x.size) h1 h2 h3).trans (x.block k hk h1 h2 h3)⟩
theorem K3.of_r {g h q : Nat} {a b : World} (x : KP g h a b) : K3 g h q a b := ⟨x.os, x.tape, x.output, x.size, fun k hk h1 h2 _ => x.block k hk h1 h2⟩
theorem K3.of_q {g h q : Nat} {a b : World} (x : KP q q a b) : K3 g h q a b := ⟨x.os, x.tape, x.output, x.size, fun k hk _ _ h3 => x.block k hk h3 h3⟩
theorem K3.of_below {g h q : Nat} {a b : World} (x : Below a.heap.size a b) : K3 g h q a b := ⟨x.os, x.tape, x.output, x.size, fun k hk _ _ _ => x.block k hk⟩
theorem K3.below {w W w' : World} {g h q : Nat} (hb : Below w.heap.size w W) (hk : K3 g h q W w') (hg : w.heap.size ≤ g) (hh : w.heap.size ≤ h) (hq : w.heap.size ≤ q) : Below w.heap.size w w' :=
  ⟨hk.os.trans hb.os, hk.tape.trans hb.tape, hk.output.trans hb.output, Nat.le_trans hb.size hk.size, fun k hk2 => (hk.block k (Nat.lt_of_lt_of_le hk2 hb.size) (by omega) (by omega) (by omega)).trans (hb.block k hk2)⟩
theorem RD.keep_but {w w' : World} {g h q : Nat} {A : Option Addr} {c : Nat} {bs : List Int} {at_ : Nat} {bad : Int} (r : RD w g h A c bs at_ bad) (hg : g ≠ q) (hh : h ≠ q) (hA : ∀ ad, A = some ad → 0 < bs.length → ad.block ≠ q) (hk : ∀ i, i < w.heap.size → i ≠ q → w'.heap[i]? = w.heap[i]?) : RD w' g h A c bs at_ bad :=
  ⟨(hk g (blk_lt r.hg) hg).trans r.hg, (hk h (blk_lt r.hh) hh).trans r.hh, r.hc, C_block_same r.hr (fun ad e hn => hk _ (C_blk_lt r.hr ad e hn) (hA ad e hn)), r.ha, r.hat, r.hb⟩
/-- A reader and the document's, over the same bytes, at the same place. -/
structure PL (w : World) (g h q b2 : Nat) (A : Option Addr) (c : Nat) (bs : List Int) (at_ : Nat) (bad : Int) : Prop where
  rd : RD w g h A c bs at_ bad
  rf : ∃ A2 c2, RF w q b2 A2 c2 (bs.drop at_) bad
  n1 : g ≠ q
  n2 : h ≠ q
  n3 : ∀ ad, A = some ad → 0 < bs.length → ad.block ≠ q
  n4 : b2 ≠ g ∧ b2 ≠ h
theorem PL.keep {w w' : World} {g h q b2 : Nat} {A : Option Addr} {c : Nat} {bs : List Int} {at_ : Nat} {bad : Int} (l : PL w g h q b2 A c bs at_ bad) (hb : Below w.heap.size w w') : PL w' g h q b2 A c bs at_ bad := by
  obtain ⟨A2, c2, hf⟩ := l.rf
  exact ⟨l.rd.keep (fun i hi => hb.block i hi), ⟨A2, c2, hf.keep (hb.block q (blk_lt hf.hq)) (fun i hi _ => hb.block i hi)⟩, l.n1, l.n2, l.n3, l.n4⟩
theorem PL.q_lt {w : World} {g h q b2 : Nat} {A : Option Addr} {c : Nat} {bs : List Int} {at_ : Nat} {bad : Int} (l : PL w g h q b2 A c bs at_ bad) : g < w.heap.size ∧ h < w.heap.size ∧ q < w.heap.size := by
  obtain ⟨A2, c2, hf⟩ := l.rf
  exact ⟨blk_lt l.rd.hg, blk_lt l.rd.hh, blk_lt hf.hq⟩
theorem PL.far {w w' : World} {g h q b2 : Nat} {A : Option Addr} {c : Nat} {bs : List Int} {at_ : Nat} {bad : Int} (l : PL w g h q b2 A c bs at_ bad) (hk : KP g h w w') : ∃ A2 c2, RF w' q b2 A2 c2 (bs.drop at_) bad := by
  obtain ⟨A2, c2, hf⟩ := l.rf
  exact ⟨A2, c2, hf.keep (hk.block q (blk_lt hf.hq) (fun e => l.n1 e.symm) (fun e => l.n2 e.symm)) (fun i hi e => hk.block i hi (e ▸ l.n4.1) (e ▸ l.n4.2))⟩
theorem PL.step {w w1 w2 : World} {g h q b2 : Nat} {A : Option Addr} {c : Nat} {bs : List Int} {at_ at2 : Nat} {bad bad2 : Int} (l : PL w g h q b2 A c bs at_ bad) (hr : RD w1 g h A c bs at2 bad2) (hk2 : KP q q w1 w2) (hf : ∃ A2 c2, RF w2 q b2 A2 c2 (bs.drop at2) bad2) : PL w2 g h q b2 A c bs at2 bad2 :=
  ⟨hr.keep_but l.n1 l.n2 l.n3 (fun i hi hne => hk2.block i hi hne hne), hf, l.n1, l.n2, l.n3, l.n4⟩
/-- Another script's blocks were written. -/
theorem PL.apart {w w' : World} {g h q b2 g' h' q' : Nat} {A : Option Addr} {c : Nat} {bs : List Int} {at_ : Nat} {bad : Int} (l : PL w g h q b2 A c bs at_ bad) (hk : K3 g' h' q' w w') (d : ∀ k, k = g ∨ k = h ∨ k = q ∨ k = b2 ∨ (∃ ad, A = some ad ∧ 0 < bs.length ∧ k = ad.block) → k ≠ g' ∧ k ≠ h' ∧ k ≠ q') : PL w' g h q b2 A c bs at_ bad := by
  obtain ⟨A2, c2, hf⟩ := l.rf
  have B : ∀ k, k < w.heap.size → (k = g ∨ k = h ∨ k = q ∨ k = b2 ∨ (∃ ad, A = some ad ∧ 0 < bs.length ∧ k = ad.block)) → w'.heap[k]? = w.heap[k]? := fun k hlt hk2 => hk.block k hlt (d k hk2).1 (d k hk2).2.1 (d k hk2).2.2
  refine ⟨⟨(B g (blk_lt l.rd.hg) (.inl rfl)).trans l.rd.hg, (B h (blk_lt l.rd.hh) (.inr (.inl rfl))).trans l.rd.hh, l.rd.hc, C_block_same l.rd.hr (fun ad e hn => B _ (C_blk_lt l.rd.hr ad e hn) (.inr (.inr (.inr (.inr ⟨ad, e, hn, rfl⟩))))), l.rd.ha, l.rd.hat, l.rd.hb⟩, ⟨A2, c2, hf.keep (B q (blk_lt hf.hq) (.inr (.inr (.inl rfl)))) (fun i hi e => B i hi (.inr (.inr (.inr (.inl e)))))⟩, l.n1, l.n2, l.n3, l.n4⟩
theorem rU_range {w : World} {g h : Nat} {A : Option Addr} {c : Nat} {bs : List Int} {at_ : Nat} {bad : Int} (R : RD w g h A c bs at_ bad) : 0 ≤ (rU bs at_ bad).1 ∧ (rU bs at_ bad).1 < 18446744073709551616 := by
  have := rtake_range R 18446744073709551615 (by omega)
  exact ⟨this.1, this.2.1⟩
set_option maxHeartbeats 8000000 in
set_option maxRecDepth 100000 in
theorem play1_calls (w : World) (g h q b2 : Nat) (A : Option Addr) (c : Nat) (bs : List Int) (at_ : Nat) (bad most : Int) (L : PL w g h q b2 A c bs at_ bad) :
    Calls Try.prog 21 #[.pointer (some ⟨g, 0, none⟩), .pointer (some ⟨q, 0, none⟩), .agg #[.int .i64 1, .int .i64 most]] w fun e w' => e = .returned (.bool true) ∧ (∃ at2 bad2, PL w' g h q b2 A c bs at2 bad2) ∧ K3 g h q w w' := by
  have BX := Aside0.mk (below_alloc (Below.refl w.heap.size w) (Obj.cells #[.int .i64 1, .int .i64 most] 49))
  have L1 := Aside0.mk (L.keep BX.out)
  have rr := Aside0.mk (rU_range L1.out.rd)
  clear L
  go_enter Try.func21, Try.ntmps21
  go_wp2_with fail
  refine (readerU_calls _ g h A c bs at_ bad L1.out.rd).mono ?_
  rintro e w2 ⟨rfl, hR2, hK2⟩
  obtain ⟨A2, c2, F3⟩ := L1.out.far hK2
  have R2 := Aside0.mk hR2
  have K2 := Aside0.mk hK2
  replace F3 := Aside0.mk F3
  clear hR2 hK2
  go_wp2_with fail
  refine (refU_calls w2 q b2 A2 c2 bs at_ bad F3.out).mono ?_
  rintro e w3 ⟨rfl, hF3, hK3⟩
  have P3 := Aside0.mk (L1.out.step R2.out hK3 hF3)
  have K3' := Aside0.mk (((K3.of_below (g := g) (h := h) (q := q) BX.out).trans (K3.of_r K2.out)).trans (K3.of_q hK3))
  clear hF3 hK3
  generalize (rU bs at_ bad).1 = u
  go_wp2_with fail
  go_ret
  exact ⟨by first | rfl | (simp; done), ⟨_, _, P3.out⟩, K3'.out⟩
set_option maxHeartbeats 8000000 in
set_option maxRecDepth 100000 in
theorem play2_calls (w : World) (g h q b2 : Nat) (A : Option Addr) (c : Nat) (bs : List Int) (at_ : Nat) (bad most : Int) (L : PL w g h q b2 A c bs at_ bad) :
    Calls Try.prog 21 #[.pointer (some ⟨g, 0, none⟩), .pointer (some ⟨q, 0, none⟩), .agg #[.int .i64 2, .int .i64 most]] w fun e w' => e = .returned (.bool true) ∧ (∃ at2 bad2, PL w' g h q b2 A c bs at2 bad2) ∧ K3 g h q w w' := by
  have BX := Aside0.mk (below_alloc (Below.refl w.heap.size w) (Obj.cells #[.int .i64 2, .int .i64 most] 49))
  have L1 := Aside0.mk (L.keep BX.out)
  have rr := Aside0.mk (rU_range L1.out.rd)
  clear L
  go_enter Try.func21, Try.ntmps21
  go_wp2_with fail
  refine (readerS_calls _ g h A c bs at_ bad L1.out.rd).mono ?_
  rintro e w2 ⟨rfl, hR2, hK2⟩
  obtain ⟨A2, c2, F3⟩ := L1.out.far hK2
  have R2 := Aside0.mk hR2
  have K2 := Aside0.mk hK2
  replace F3 := Aside0.mk F3
  clear hR2 hK2
  go_wp2_with fail
  refine (refS_calls w2 q b2 A2 c2 bs at_ bad F3.out rr.out.1 rr.out.2).mono ?_
  rintro e w3 ⟨rfl, hF3, hK3⟩
  have P3 := Aside0.mk (L1.out.step R2.out hK3 hF3)
  have K3' := Aside0.mk (((K3.of_below (g := g) (h := h) (q := q) BX.out).trans (K3.of_r K2.out)).trans (K3.of_q hK3))
  clear hF3 hK3
  generalize sunfold (rU bs at_ bad).1 = u
  go_wp2_with fail
  go_ret
  exact ⟨by first | rfl | (simp; done), ⟨_, _, P3.out⟩, K3'.out⟩
set_option maxHeartbeats 8000000 in
set_option maxRecDepth 100000 in
theorem play3_calls (w : World) (g h q b2 : Nat) (A : Option Addr) (c : Nat) (bs : List Int) (at_ : Nat) (bad most : Int) (L : PL w g h q b2 A c bs at_ bad) (hm0 : -9223372036854775808 ≤ most) (hm : most ≤ 9223372036854775807) :
    Calls Try.prog 21 #[.pointer (some ⟨g, 0, none⟩), .pointer (some ⟨q, 0, none⟩), .agg #[.int .i64 3, .int .i64 most]] w fun e w' => e = .returned (.bool true) ∧ (∃ at2 bad2, PL w' g h q b2 A c bs at2 bad2) ∧ K3 g h q w w' := by
  have BX := Aside0.mk (below_alloc (Below.refl w.heap.size w) (Obj.cells #[.int .i64 3, .int .i64 most] 49))
  have L1 := Aside0.mk (L.keep BX.out)
  obtain ⟨q1, q2, q3⟩ := L.q_lt
  have HM := Aside0.mk (And.intro hm0 hm)
  have D := Aside0.mk (fun n => pw_below_drewN (Below.refl (w.alloc (Obj.cells #[.int .i64 3, .int .i64 most] 49)).heap.size (w.alloc (Obj.cells #[.int .i64 3, .int .i64 most] 49))) n)
  have NC := Aside0.mk (readerN_calls ((w.alloc (Obj.cells #[.int .i64 3, .int .i64 most] 49)).drew) g h A c bs at_ bad most (L1.out.keep (D.out 1)).rd hm)
  have hboxc : ∀ W : World, KP g h ((w.alloc (Obj.cells #[.int .i64 3, .int .i64 most] 49)).drew) W → W.cell? ⟨w.heap.size, 1, none⟩ = some (.int .i64 most) := fun W hk => by
    have h1 := hk.block w.heap.size (by show w.heap.size < (w.alloc _).heap.size; simp) (by omega) (by omega)
    have h2 : W.heap[w.heap.size]? = some (Obj.cells #[.int .i64 3, .int .i64 most] 49) := h1.trans (blk_new w _)
    have h3 := blk_cell h2 1
    simpa using h3
  have HBX := Aside0.mk hboxc
  clear L hboxc hm0 hm
  go_enter Try.func21, Try.ntmps21
  go_wp2_with fail
  go_region_with (first
    | (go_at_call 24; (with_reducible refine NC.out.mono ?_); rintro e w2 ⟨rfl, hR2, hK2⟩; have hbx2 := HBX.out w2 hK2; obtain ⟨A2, c2, F3⟩ := (L1.out.keep (D.out 1)).far hK2; have R2 := Aside0.mk hR2; have K2 := Aside0.mk hK2; have FN := Aside0.mk (refN_calls w2 q b2 A2 c2 bs at_ bad most F3 HM.out.1 HM.out.2); clear hR2 hK2 F3)
    | (go_at_call 32; (with_reducible refine FN.out.mono ?_); rintro e w3 ⟨rfl, hF3, hK3⟩; have P3 := Aside0.mk ((L1.out.keep (D.out 1)).step R2.out hK3 hF3); have K3' := Aside0.mk (((K3.of_below (g := g) (h := h) (q := q) (below_two BX.out (D.out 1))).trans (K3.of_r K2.out)).trans (K3.of_q hK3)); clear hF3 hK3))
  all_goals (generalize (rN bs at_ bad most).1 = u)
  all_goals go_wp2_with fail
  all_goals go_ret
  all_goals exact ⟨by first | rfl | (simp; done), ⟨_, _, P3.out⟩, K3'.out⟩

end Go.Proofs.Ytbepmlgpapdnpaa.PX
