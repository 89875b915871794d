/- Wire forms: what PutU, PutS, U, S append. -/
import Derived.Test.YtfekobhcekcniaaVS
import Derived.IntWalk
import Derived.Handy
import Derived.WalkKit
import Derived.Laws.Strings
set_option linter.unusedVariables false
set_option linter.unusedSimpArgs false
set_option linter.unusedVariables false
set_option linter.unusedSimpArgs false
namespace Go.Proofs.Ytfekobhcekcniaa.VX
theorem W.bindI {α β : Type} {x : W α} {f : α → W β} {R : β → Prop} (h : x.run fun a => (f a).run R) : (W.bind x f).run R := h
theorem W.retI {α : Type} {a : α} {R : α → Prop} (h : R a) : (W.ret a).run R := h
theorem W.needI {α : Type} {c : Prop} {x : W α} {R : α → Prop} (hc : c) (h : x.run R) : (W.need c x).run R := ⟨hc, h⟩
theorem W.iteT {α : Type} {b : Bool} {x y : W α} {R : α → Prop} (hb : b = true) (h : x.run R) : (W.ite b x y).run R := ⟨fun _ => h, fun e => by rw [hb] at e; cases e⟩
theorem W.iteF {α : Type} {b : Bool} {x y : W α} {R : α → Prop} (hb : b = false) (h : y.run R) : (W.ite b x y).run R := ⟨fun e => (by rw [hb] at e; cases e), fun _ => h⟩
theorem W.iteC {α : Type} {b : Bool} {x y : W α} {R : α → Prop} (h : b = true → x.run R) (h' : b = false → y.run R) : (W.ite b x y).run R := XSplit.mk h h'
theorem wrap64_in {x : Int} (h : -9223372036854775808 ≤ x) (h' : x ≤ 9223372036854775807) : IntKind.i64.wrap x = x := by
  rw [IntKind.wrap_i64]; omega
theorem wrapu64_in {x : Int} (h : 0 ≤ x) (h' : x ≤ 18446744073709551615) : IntKind.u64.wrap x = x := by
  rw [IntKind.wrap_u64]; omega
/-- The bytes of a number: seven bits each, the low ones first. -/
def uB (n : Nat) : List Nat := if n < 128 then [n] else (n % 128 + 128) :: uB (n / 128)
termination_by n
decreasing_by omega
def rowsB (l : List Nat) : Rws := l.map fun (b : Nat) => [I (b : Int)]
theorem rowsB_app (l m : List Nat) : rowsB (l ++ m) = rowsB l ++ rowsB m := by simp [rowsB]
theorem rowsB_len (l : List Nat) : (rowsB l).length = l.length := by simp [rowsB]
theorem uB_small {n : Nat} (h : n < 128) : uB n = [n] := by rw [uB, if_pos h]
theorem uB_big {n : Nat} (h : 128 ≤ n) : uB n = (n % 128 + 128) :: uB (n / 128) := by rw [uB, if_neg (by omega)]
theorem uB_len : ∀ (k n : Nat), n < 128 ^ (k + 1) → (uB n).length ≤ k + 1
  | 0, n, h => by rw [uB_small (by omega)]; simp
  | k + 1, n, h => by
    by_cases hn : n < 128
    · rw [uB_small hn]; simp
    · rw [uB_big (by omega)]
      have := uB_len k (n / 128) (by rw [Nat.div_lt_iff_lt_mul (by omega), ← Nat.pow_succ]; exact h)
      simp; omega
theorem uB_len10 {n : Nat} (h : n < 18446744073709551616) : (uB n).length ≤ 10 := uB_len 9 n (by omega)
theorem uB_pos (n : Nat) : 0 < (uB n).length := by
  by_cases h : n < 128
  · rw [uB_small h]; simp
  · rw [uB_big (by omega)]; simp

theorem g_ref04_U_ok {n : Nat} (hn : n < 18446744073709551616) {R : Bool × Rws → Prop} (h : R (false, rowsB (uB n))) : (g_ref04_U (n : Int)).run R := by
  unfold g_ref04_U
  refine W.bindI (W.loop_inv (fun s => ∃ (v : Nat) (acc : List Nat), v < 18446744073709551616 ∧ s.1 = (v : Int) ∧ s.2.2 = rowsB acc ∧ acc ++ uB v = uB n) (fun s => s.1.toNat) ?_ ⟨n, [], hn, rfl, rfl, rfl⟩)
  rintro ⟨s1, s2, s3⟩ ⟨v, acc, hv, rfl, rfl, hacc⟩
  have hl := congrArg List.length hacc
  have h10 := uB_len10 hn
  have hp := uB_pos v
  simp only [List.length_append] at hl
  refine W.iteC (fun e => ?_) (fun e => ?_)
  · have e : 128 ≤ v := by have := of_decide_eq_true e; omega
    refine W.needI (by simp only [rowsB_len]; omega) (W.retI ?_)
    have e0 : (v : Int).tdiv 128 = ((v / 128 : Nat) : Int) := rfl
    have e2 : (v : Int).tmod 128 = ((v % 128 : Nat) : Int) := rfl
    refine ⟨⟨v / 128, acc ++ [v % 128 + 128], by omega, ?_, ?_, ?_⟩, ?_⟩
    · show IntKind.u64.wrap ((v : Int).tdiv 128) = _
      rw [e0, wrapu64_in (by omega) (by omega)]
    · show rowsB acc ++ [[I (IntKind.u8.wrap (IntKind.u64.wrap ((v : Int).tmod 128 + 128)))]] = _
      have e1 : IntKind.u8.wrap (IntKind.u64.wrap ((v : Int).tmod 128 + 128)) = ((v % 128 + 128 : Nat) : Int) := by
        rw [e2, wrapu64_in (by omega) (by omega), IntKind.wrap_u8]; omega
      rw [e1, rowsB_app]; rfl
    · rw [List.append_assoc, ← hacc, uB_big e]; rfl
    · show (IntKind.u64.wrap ((v : Int).tdiv 128)).toNat < (v : Int).toNat
      rw [e0, wrapu64_in (by omega) (by omega)]; omega
  · have e : v < 128 := by have := of_decide_eq_false e; omega
    refine W.retI ?_
    refine W.needI (by simp only [rowsB_len]; omega) (W.retI ?_)
    have e1 : IntKind.u8.wrap (v : Int) = (v : Int) := by rw [IntKind.wrap_u8]; omega
    simp only [Bool.and_false, e1]
    rw [← hacc, uB_small e, rowsB_app] at h
    exact h
end Go.Proofs.Ytfekobhcekcniaa.VX
namespace Go.Proofs.Ytfekobhcekcniaa.VX
theorem orU8 (b : BitVec 8) : b ||| 128#8 = BitVec.ofNat 8 (b.toNat % 128 + 128) := by
  revert b; decide
theorem or128 (v : Nat) : ibits BinOp.or IntKind.u8 (IntKind.u8.wrap (v : Int)) 128 = ((v % 128 + 128 : Nat) : Int) := by
  have h1 : IntKind.u8.wrap (v : Int) = ((v % 256 : Nat) : Int) := by rw [IntKind.wrap_u8]; omega
  rw [h1]
  show IntKind.u8.wrap (((BitVec.ofInt 8 ((v % 256 : Nat) : Int) ||| BitVec.ofInt 8 128 : BitVec 8).toNat : Nat) : Int) = _
  have h2 : (BitVec.ofInt 8 ((v % 256 : Nat) : Int)) = BitVec.ofNat 8 v := by
    rw [BitVec.ofInt_natCast]
    apply BitVec.eq_of_toNat_eq
    simp
  have h3 : (BitVec.ofInt 8 128) = 128#8 := rfl
  rw [h2, h3, orU8 (BitVec.ofNat 8 v), IntKind.wrap_u8]
  simp
  omega

theorem g_slices_Grow_ok {n : Nat} (hn : n ≤ 140737488355328) {R : Bool × Rws → Prop} (h : ∀ b, R (b, [])) : (g_slices_Grow___byte_byte__z (n : Int)).run R := by
  unfold g_slices_Grow___byte_byte__z
  have e : IntKind.i64.wrap ((n : Int) - 0) = n := by rw [wrap64_in] <;> omega
  refine W.iteF (by simp) ?_
  rw [e]
  refine W.iteC (fun h1 => ?_) (fun _ => W.retI (h _))
  have h1 := of_decide_eq_true h1
  exact W.needI (by omega) (W.needI (by simp) (W.retI (by simpa using h false)))
theorem g_slices_Concat_ok (b b1 b2 : Bool) (l m : Rws) (hl : l.length + m.length ≤ 140737488355328) {R : Bool × Rws → Prop} (h : ∀ b, R (b, l ++ m)) : (g_slices_Concat___byte_byte_ b [[AV.sl b1 0 l], [AV.sl b2 0 m]]).run R := by
  unfold g_slices_Concat___byte_byte_
  have r0 : rr [[AV.sl b1 0 l], [AV.sl b2 0 m]] 0 0 = l := rfl
  have r1 : rr [[AV.sl b1 0 l], [AV.sl b2 0 m]] 1 0 = m := rfl
  have t1 : (IntKind.i64.wrap ((0 : Int) + 1)).toNat = 1 := by decide
  have t2 : IntKind.i64.wrap ((0 : Int) + 1) = 1 := by decide
  have t3 : IntKind.i64.wrap ((1 : Int) + 1) = 2 := by decide
  have a0 : IntKind.i64.wrap (0 + (l.length : Int)) = (l.length : Int) := by rw [wrap64_in] <;> omega
  have a1 : IntKind.i64.wrap ((l.length : Int) + (m.length : Int)) = ((l.length + m.length : Nat) : Int) := by rw [wrap64_in] <;> omega
  refine W.bindI ?_
  refine W.loop_unroll (W.iteT rfl (W.needI (by simp) ?_))
  simp only [show (0 : Int).toNat = 0 from rfl, r0, a0, t2]
  refine W.iteF (by simp) (W.retI ?_)
  refine W.loop_unroll (W.iteT rfl (W.needI (by simp) ?_))
  simp only [show (1 : Int).toNat = 1 from rfl, r1, a1, t3]
  refine W.iteF (by simp; omega) (W.retI ?_)
  refine W.loop_unroll (W.iteF rfl (W.retI ?_))
  refine W.bindI (g_slices_Grow_ok hl fun b0 => ?_)
  refine W.bindI ?_
  refine W.loop_unroll (W.iteT rfl (W.needI (by simp) ?_))
  simp only [show (0 : Int).toNat = 0 from rfl, r0, t2]
  refine W.needI (by simp; omega) (W.retI ?_)
  refine W.loop_unroll (W.iteT rfl (W.needI (by simp) ?_))
  simp only [show (1 : Int).toNat = 1 from rfl, r1, t3]
  refine W.needI (by simp; omega) (W.retI ?_)
  refine W.loop_unroll (W.iteF rfl (W.retI ?_))
  exact W.retI (by simpa using h _)
theorem g_wire_PutU_ok (b : Bool) (l : Rws) {n : Nat} (hn : n < 18446744073709551616) (hl : l.length + 10 ≤ 140737488355328) {R : Bool × Rws → Prop} (h : R (false, l ++ rowsB (uB n))) : (g_wire_PutU b l (n : Int)).run R := by
  unfold g_wire_PutU
  refine W.bindI (g_slices_Concat_ok _ _ _ l [] (by simp; omega) fun b0 => ?_)
  simp only [List.append_nil]
  refine W.bindI (W.loop_inv (fun s => ∃ (v : Nat) (acc : List Nat), v < 18446744073709551616 ∧ s.1 = (v : Int) ∧ s.2.2 = l ++ rowsB acc ∧ acc ++ uB v = uB n) (fun s => s.1.toNat) ?_ ⟨n, [], hn, rfl, by simp [rowsB], rfl⟩)
  rintro ⟨s1, s2, s3⟩ ⟨v, acc, hv, rfl, rfl, hacc⟩
  have hln := congrArg List.length hacc
  have h10 := uB_len10 hn
  have hp := uB_pos v
  simp only [List.length_append] at hln
  have e0 : (v : Int).fdiv 128 = ((v / 128 : Nat) : Int) := by rw [Int.fdiv_eq_ediv_of_nonneg _ (by omega)]; rfl
  refine W.iteC (fun e => ?_) (fun e => ?_)
  · have e : 128 ≤ v := by have := of_decide_eq_true e; omega
    refine W.needI (by simp only [List.length_append, rowsB_len]; omega) (W.retI ?_)
    refine ⟨⟨v / 128, acc ++ [v % 128 + 128], by omega, e0, ?_, ?_⟩, ?_⟩
    · show l ++ rowsB acc ++ [[I (ibits BinOp.or IntKind.u8 (IntKind.u8.wrap (v : Int)) 128)]] = _
      rw [or128, rowsB_app, List.append_assoc]; rfl
    · rw [List.append_assoc, ← hacc, uB_big e]; rfl
    · show ((v : Int).fdiv 128).toNat < (v : Int).toNat
      rw [e0]; omega
  · have e : v < 128 := by have := of_decide_eq_false e; omega
    refine W.retI ?_
    refine W.needI (by simp only [List.length_append, rowsB_len]; omega) (W.retI ?_)
    have e1 : IntKind.u8.wrap (v : Int) = (v : Int) := by rw [IntKind.wrap_u8]; omega
    simp only [Bool.and_false, e1]
    rw [← hacc, uB_small e, rowsB_app] at h
    rw [List.append_assoc]
    exact h
/-- Whole numbers of either sign, folded. -/
def zz (x : Int) : Nat := if 0 ≤ x then (2 * x).toNat else (-2 * x - 1).toNat
theorem zz_lt {x : Int} (h : -9223372036854775808 ≤ x) (h' : x ≤ 9223372036854775807) : zz x < 18446744073709551616 := by unfold zz; split <;> omega
theorem g_ref04_Fold_ok {x : Int} (h1 : -9223372036854775808 ≤ x) (h2 : x ≤ 9223372036854775807) {R : Int → Prop} (h : R (zz x : Int)) : (g_ref04_Fold x).run R := by
  unfold g_ref04_Fold
  unfold zz at h
  by_cases hx : 0 ≤ x
  · rw [if_pos hx] at h
    refine W.iteT (by simpa using hx) (W.retI ?_)
    rw [wrapu64_in (x := x) (by omega) (by omega), wrapu64_in (by omega) (by omega)]
    rwa [show (((2 * x).toNat : Nat) : Int) = 2 * x by omega] at h
  · rw [if_neg hx] at h
    refine W.iteF (by simpa using hx) (W.retI ?_)
    rw [wrap64_in (x := x + 1) (by omega) (by omega), wrap64_in (x := 0 - (x + 1)) (by omega) (by omega), wrapu64_in (x := 0 - (x + 1)) (by omega) (by omega), wrapu64_in (x := 2 * (0 - (x + 1))) (by omega) (by omega), wrapu64_in (by omega) (by omega)]
    rwa [show (((-2 * x - 1).toNat : Nat) : Int) = 2 * (0 - (x + 1)) + 1 by omega] at h
theorem g_ref04_S_ok {x : Int} (h1 : -9223372036854775808 ≤ x) (h2 : x ≤ 9223372036854775807) {R : Bool × Rws → Prop} (h : R (false, rowsB (uB (zz x)))) : (g_ref04_S x).run R := by
  unfold g_ref04_S
  exact W.bindI (g_ref04_Fold_ok h1 h2 (W.bindI (g_ref04_U_ok (zz_lt h1 h2) (W.retI h))))
theorem xor_zz {x : Int} (h1 : -9223372036854775808 ≤ x) (h2 : x ≤ 9223372036854775807) :
    ibits BinOp.xor IntKind.u64 (IntKind.u64.wrap (IntKind.u64.wrap x * 2)) (IntKind.u64.wrap (x.fdiv 9223372036854775808)) = (zz x : Int) := by
  have hib : ∀ a b : Int, ibits BinOp.xor IntKind.u64 a b = IntKind.u64.wrap (((BitVec.ofInt 64 a ^^^ BitVec.ofInt 64 b : BitVec 64).toNat : Nat) : Int) := fun _ _ => rfl
  rw [hib]
  have hd : x.fdiv 9223372036854775808 = if 0 ≤ x then 0 else -1 := by
    rw [Int.fdiv_eq_ediv_of_nonneg _ (by omega)]
    split <;> omega
  rw [hd]
  unfold zz
  by_cases hx : 0 ≤ x
  · rw [if_pos hx, if_pos hx, wrapu64_in (x := x) (by omega) (by omega), wrapu64_in (x := x * 2) (by omega) (by omega)]
    have e : (BitVec.ofInt 64 (IntKind.u64.wrap 0)) = 0#64 := by decide
    rw [e, BitVec.xor_zero]
    have e2 : (BitVec.ofInt 64 (x * 2)).toNat = (2 * x).toNat := by
      rw [BitVec.toNat_ofInt]; omega
    rw [e2, wrapu64_in (by omega) (by omega)]
  · rw [if_neg hx, if_neg hx]
    have e : (BitVec.ofInt 64 (IntKind.u64.wrap (-1))) = BitVec.allOnes 64 := by decide
    rw [e]
    have e1 : IntKind.u64.wrap (IntKind.u64.wrap x * 2) = 2 * x + 18446744073709551616 := by
      simp only [IntKind.wrap_u64]; omega
    rw [e1]
    have e2 : (BitVec.ofInt 64 (2 * x + 18446744073709551616) ^^^ BitVec.allOnes 64) = ~~~(BitVec.ofInt 64 (2 * x + 18446744073709551616)) := BitVec.xor_allOnes
    rw [e2]
    have e3 : (~~~(BitVec.ofInt 64 (2 * x + 18446744073709551616))).toNat = (-2 * x - 1).toNat := by
      rw [BitVec.toNat_not, BitVec.toNat_ofInt]; omega
    rw [e3, wrapu64_in (by omega) (by omega)]
theorem g_wire_PutS_ok (b : Bool) (l : Rws) {x : Int} (h1 : -9223372036854775808 ≤ x) (h2 : x ≤ 9223372036854775807) (hl : l.length + 10 ≤ 140737488355328) {R : Bool × Rws → Prop} (h : R (false, l ++ rowsB (uB (zz x)))) : (g_wire_PutS b l x).run R := by
  unfold g_wire_PutS
  rw [xor_zz h1 h2]
  exact W.bindI (g_wire_PutU_ok b l (zz_lt h1 h2) hl (W.retI h))
end Go.Proofs.Ytfekobhcekcniaa.VX

set_option linter.unusedVariables false
set_option linter.unusedSimpArgs false
namespace Go.Proofs.Ytfekobhcekcniaa.VX
def cI (r : List AV) (j : Nat) : Int := (r.getD j .dead).toInt
def cR (r : List AV) (j : Nat) : Rws := (r.getD j .dead).toRows
theorem ri_eq (l : Rws) (i j : Nat) : ri l i j = cI (l.getD i []) j := rfl
theorem rr_eq (l : Rws) (i j : Nat) : rr l i j = cR (l.getD i []) j := rfl
/-- A loop that counts. -/
theorem W.loop_for {σ ε : Type} {f : σ → W (σ ⊕ ε)} {R : ε → Prop} (n : Nat) (J : Nat → σ → Prop) (h : ∀ i s, i < n → J i s → (f s).run (W.on (J (i + 1)) R)) (hend : ∀ s, J n s → (f s).run (W.on (fun _ => False) R)) {s : σ} (h0 : J 0 s) : (W.loop f s).run R := by
  have key : ∀ k i s, n - i = k → i ≤ n → J i s → (W.loop f s).run R := by
    intro k
    induction k with
    | zero =>
      intro i s hk hi hJ
      have : i = n := by omega
      subst this
      exact W.loop_unroll ((f s).mono (W.on_mono (fun _ q => q.elim) fun _ => id) (hend s hJ))
    | succ k ih =>
      intro i s hk hi hJ
      exact W.loop_unroll ((f s).mono (W.on_mono (fun s' q => ih (i + 1) s' (by omega) (by omega) q) fun _ => id) (h i s (by omega) hJ))
  exact key n 0 s (by omega) (by omega) h0
def in64 (x : Int) : Prop := -9223372036854775808 ≤ x ∧ x ≤ 9223372036854775807
/-- Numbers that a machine holds. -/
def num (l : Rws) : Prop := ∀ r ∈ l, ∀ j, in64 (cI r j)
theorem num_get {l : Rws} (h : num l) (i j : Nat) : in64 (ri l i j) := by
  rw [ri_eq]
  by_cases hi : i < l.length
  · rw [show l.getD i [] = l[i] by simp [hi]]
    exact h _ (List.getElem_mem hi) j
  · rw [show l.getD i [] = [] by simp [Nat.le_of_not_lt hi]]
    simp [cI, in64, AV.toInt]
def uI (x : Int) : List Nat := uB (IntKind.u64.wrap x).toNat
def spB (r : List AV) : List Nat := uB (zz (cI r 0)) ++ uB (zz (cI r 1))
def chB (r : List AV) : List Nat := uI (cI r 0) ++ uI (cI r 1) ++ (uB (zz (cI r 2)) ++ uB (zz (cI r 3))) ++ (uB (zz (cI r 4)) ++ uB (zz (cI r 5)))
def plB (r : List AV) : List Nat := uI ((cR r 0).length : Int) ++ (cR r 0).flatMap chB
def encB (sp pl : Rws) : List Nat := [83, 87, 67, 49] ++ uI (sp.length : Int) ++ sp.flatMap spB ++ uI (pl.length : Int) ++ pl.flatMap plB
theorem wrapu_nat (x : Int) : ((IntKind.u64.wrap x).toNat : Int) = IntKind.u64.wrap x ∧ (IntKind.u64.wrap x).toNat < 18446744073709551616 := by
  rw [IntKind.wrap_u64]; omega
theorem uI_len (x : Int) : (uI x).length ≤ 10 := uB_len10 (wrapu_nat x).2
theorem zzB_len {x : Int} (h : in64 x) : (uB (zz x)).length ≤ 10 := uB_len10 (zz_lt h.1 h.2)
theorem flat_len {α β : Type} {f : α → List β} {k : Nat} : ∀ {l : List α}, (∀ r ∈ l, (f r).length ≤ k) → (l.flatMap f).length ≤ k * l.length
  | [], _ => by simp
  | r :: l, h => by
    have h1 := h r (List.mem_cons_self ..)
    have h2 := flat_len (f := f) (fun x hx => h x (List.mem_cons_of_mem _ hx))
    simp only [List.flatMap_cons, List.length_append, List.length_cons, Nat.mul_add, Nat.mul_one]
    omega
theorem take_flat {α β : Type} {f : List α → List β} {l : List (List α)} {i : Nat} (h : i < l.length) : (l.take (i + 1)).flatMap f = (l.take i).flatMap f ++ f (l.getD i []) := by
  rw [List.take_succ_eq_append_getElem h, List.flatMap_append]
  simp [h]
theorem num_take {l : Rws} (h : num l) (i : Nat) : num (l.take i) := fun r hr => h r (List.mem_of_mem_take hr)
theorem spB_len {l : Rws} (h : num l) : (l.flatMap spB).length ≤ 20 * l.length := flat_len fun r hr => by
  have h1 := zzB_len (h r hr 0)
  have h2 := zzB_len (h r hr 1)
  simp only [spB, List.length_append]; omega
theorem chB_len {l : Rws} (h : num l) : (l.flatMap chB).length ≤ 60 * l.length := flat_len fun r hr => by
  have h1 := zzB_len (h r hr 2)
  have h2 := zzB_len (h r hr 3)
  have h3 := zzB_len (h r hr 4)
  have h4 := zzB_len (h r hr 5)
  have h5 := uI_len (cI r 0)
  have h6 := uI_len (cI r 1)
  simp only [chB, List.length_append]; omega

theorem PutU_uI (b : Bool) (l : Rws) (x : Int) (hl : l.length + 10 ≤ 140737488355328) {R : Bool × Rws → Prop} (h : R (false, l ++ rowsB (uI x))) : (g_wire_PutU b l (IntKind.u64.wrap x)).run R := by
  obtain ⟨h1, h2⟩ := wrapu_nat x
  rw [← h1]
  exact g_wire_PutU_ok b l h2 hl h
theorem wrap_succ {i : Nat} (h : i ≤ 140737488355328) : IntKind.i64.wrap ((i : Int) + 1) = ((i + 1 : Nat) : Int) := by rw [wrap64_in] <;> omega
theorem g_seal_put_ok (b : Bool) (l : Rws) (b' : Bool) (acc : Rws) (hl : num l) (hn : l.length ≤ 65) (hacc : acc.length ≤ 100000000) {R : Bool × Rws → Prop} (h : ∀ c, (b' = false → c = false) → R (c, acc ++ rowsB (l.flatMap spB))) : (g_seal_put_o b l b' acc).run R := by
  unfold g_seal_put_o
  refine W.bindI (W.loop_for l.length (fun i s => s.1 = (i : Int) ∧ (b' = false → s.2.1 = false) ∧ s.2.2 = acc ++ rowsB ((l.take i).flatMap spB)) ?_ ?_ ⟨rfl, id, by simp [rowsB]⟩)
  · rintro i ⟨s1, s2, s3⟩ hi ⟨rfl, hfl, rfl⟩
    refine W.iteT (by simpa using hi) (W.needI (by constructor <;> omega) ?_)
    have q0 := num_get hl i 0
    have q1 := num_get hl i 1
    simp only [Int.toNat_natCast]
    refine W.bindI (g_wire_PutS_ok _ _ q0.1 q0.2 (by simp) (W.bindI (g_wire_PutS_ok _ _ q1.1 q1.2 ?_ ?_)))
    · have := zzB_len q0
      simp only [List.nil_append, rowsB_len]; omega
    · have h0 := spB_len (num_take hl i)
      have h1 := zzB_len q0
      have h2 := zzB_len q1
      have h3 : (l.take i).length ≤ 65 := by simp; omega
      refine W.needI ?_ (W.retI ⟨wrap_succ (by omega), fun e => by have := hfl e; dsimp only at this ⊢; rw [this]; rfl, ?_⟩)
      · simp only [List.nil_append, List.length_append, rowsB_len]
        omega
      · show acc ++ rowsB ((l.take i).flatMap spB) ++ ([] ++ rowsB (uB (zz (ri l i 0))) ++ rowsB (uB (zz (ri l i 1)))) = _
        rw [take_flat hi, rowsB_app, List.nil_append, ← rowsB_app, List.append_assoc]
        rfl
  · rintro ⟨s1, s2, s3⟩ ⟨rfl, hfl, rfl⟩
    refine W.iteF (by simp) (W.retI (W.retI ?_))
    simpa using h _ hfl
end Go.Proofs.Ytfekobhcekcniaa.VX

set_option linter.unusedVariables false
set_option linter.unusedSimpArgs false
namespace Go.Proofs.Ytfekobhcekcniaa.VX
def badCh (r : List AV) : Bool := !(decide (0 ≤ cI r 0 ∧ cI r 0 ≤ 2147483647 ∧ 0 ≤ cI r 1 ∧ cI r 1 ≤ 2147483647))
def hdGo : Rws → Nat → Int × Int × Int
  | [], _ => (0, 0, 0)
  | r :: rest, i => if 1024 < (cR r 0).length then (42, (i + 1 : Nat), 0) else match (cR r 0).findIdx? badCh with
    | some j => (2, (i + 1 : Nat), (j + 1 : Nat))
    | none => hdGo rest (i + 1)
def hd (sp pl : Rws) : Int × Int × Int := if 65 < sp.length ∨ 64 < pl.length then (42, 0, 0) else hdGo pl 0
theorem hdGo_cons (r : List AV) (rest : Rws) (i : Nat) : hdGo (r :: rest) i = if 1024 < (cR r 0).length then (42, ((i + 1 : Nat) : Int), 0) else match (cR r 0).findIdx? badCh with
    | some j => (2, ((i + 1 : Nat) : Int), ((j + 1 : Nat) : Int))
    | none => hdGo rest (i + 1) := rfl
theorem hdGo_ok : ∀ {pl : Rws} {i : Nat}, (hdGo pl i).1 = 0 → hdGo pl i = (0, 0, 0) ∧ ∀ r ∈ pl, (cR r 0).length ≤ 1024 ∧ ∀ c ∈ cR r 0, badCh c = false
  | [], _, _ => ⟨rfl, by simp⟩
  | r :: rest, i, h => by
    unfold hdGo at h ⊢
    by_cases h1 : 1024 < (cR r 0).length
    · rw [if_pos h1] at h; cases h
    · rw [if_neg h1] at h ⊢
      cases hf : (cR r 0).findIdx? badCh with
      | some j => rw [hf] at h; cases h
      | none =>
        rw [hf] at h
        obtain ⟨q1, q2⟩ := hdGo_ok h
        refine ⟨q1, fun x hx => ?_⟩
        rcases List.mem_cons.1 hx with rfl | hx
        · exact ⟨by omega, List.findIdx?_eq_none_iff.1 hf⟩
        · exact q2 x hx
theorem hd_ok {sp pl : Rws} (h : (hd sp pl).1 = 0) : hd sp pl = (0, 0, 0) ∧ sp.length ≤ 65 ∧ pl.length ≤ 64 ∧ ∀ r ∈ pl, (cR r 0).length ≤ 1024 ∧ ∀ c ∈ cR r 0, badCh c = false := by
  unfold hd at h ⊢
  by_cases h1 : 65 < sp.length ∨ 64 < pl.length
  · rw [if_pos h1] at h; cases h
  · rw [if_neg h1] at h ⊢
    obtain ⟨q1, q2⟩ := hdGo_ok h
    exact ⟨q1, by omega, by omega, q2⟩
theorem imin_f (a b : Int) : imin false a b = min a b := by simp only [imin]; first | rfl | (simp; omega) | (split <;> omega)
theorem imin_t (a b : Int) : imin true a b = max a b := by simp only [imin]; first | rfl | (simp; omega) | (split <;> omega)
theorem bad_imin (r : List AV) : (decide (imin false (cI r 0) (cI r 1) < 0) || decide (2147483647 < imin true (cI r 0) (cI r 1))) = badCh r := by
  rw [imin_f, imin_t]
  unfold badCh
  rw [Bool.eq_iff_iff]
  simp
  omega
theorem find_some {l : Rws} {j : Nat} (hj : j < l.length) (hb : badCh (l.getD j []) = true) (hlt : ∀ i, i < j → badCh (l.getD i []) = false) : l.findIdx? badCh = some j := by
  rw [List.findIdx?_eq_some_iff_getElem]
  refine ⟨hj, ?_, fun i hi => ?_⟩
  · simpa [hj] using hb
  · have := hlt i hi
    have hi' : i < l.length := by omega
    simpa [hi'] using this
theorem find_none {l : Rws} (hlt : ∀ i, i < l.length → badCh (l.getD i []) = false) : l.findIdx? badCh = none := by
  rw [List.findIdx?_eq_none_iff]
  intro x hx
  obtain ⟨i, hi, rfl⟩ := List.mem_iff_getElem.1 hx
  have := hlt i hi
  simpa [hi] using this
theorem drop_get {l : Rws} {i : Nat} (h : i < l.length) : l.drop i = l.getD i [] :: l.drop (i + 1) := by
  rw [List.drop_eq_getElem_cons h]; simp [h]

theorem g_seal_check_ok (b : Bool) (sp : Rws) (b' : Bool) (pl : Rws) {R : Int × Int × Int → Prop} (h : R (hd sp pl)) : (g_seal_check b sp b' pl).run R := by
  unfold g_seal_check
  unfold hd at h
  refine W.iteC (fun e => ?_) (fun e => ?_)
  · rw [if_pos (by simp at e; omega)] at h
    exact W.retI h
  · have e : ¬ (65 < sp.length ∨ 64 < pl.length) := by simp at e; omega
    rw [if_neg e] at h
    refine W.bindI (W.loop_for pl.length (fun i s => s = (i : Int) ∧ hdGo (pl.drop i) i = hdGo pl 0) ?_ ?_ ⟨rfl, rfl⟩)
    · rintro i s hi ⟨rfl, hgo⟩
      rw [drop_get hi, hdGo_cons] at hgo
      refine W.iteT (by simpa using hi) (W.needI (by constructor <;> omega) ?_)
      simp only [Int.toNat_natCast, rr_eq]
      refine W.iteC (fun e1 => ?_) (fun e1 => ?_)
      · have e1 : 1024 < (cR (pl.getD i []) 0).length := by have := of_decide_eq_true e1; omega
        rw [if_pos e1] at hgo
        rw [← hgo] at h
        refine W.retI (W.retI ?_)
        rw [wrap_succ (by omega)]
        exact h
      · have e1 : ¬ 1024 < (cR (pl.getD i []) 0).length := by have := of_decide_eq_false e1; omega
        rw [if_neg e1] at hgo
        refine W.bindI (W.loop_for (cR (pl.getD i []) 0).length (fun j s => s = (j : Int) ∧ ∀ k, k < j → badCh ((cR (pl.getD i []) 0).getD k []) = false) ?_ ?_ ⟨rfl, fun k hk => absurd hk (Nat.not_lt_zero _)⟩)
        · rintro j s hj ⟨rfl, hlt⟩
          refine W.iteT (by simpa using hj) (W.needI (by constructor <;> omega) ?_)
          simp only [Int.toNat_natCast, ri_eq, bad_imin]
          refine W.iteC (fun e2 => ?_) (fun e2 => ?_)
          · replace e2 := (bad_imin _).symm.trans e2
            refine W.retI (W.retI (W.retI ?_))
            rw [find_some hj e2 hlt] at hgo
            rw [← hgo] at h
            simp only [wrap_succ (show i ≤ 140737488355328 by omega), wrap_succ (show j ≤ 140737488355328 by omega)]
            exact h
          · replace e2 := (bad_imin _).symm.trans e2
            refine W.retI ⟨wrap_succ (by omega), fun k hk => ?_⟩
            by_cases hkj : k = j
            · subst hkj; exact e2
            · exact hlt k (by omega)
        · rintro s ⟨rfl, hlt⟩
          refine W.iteF (by simp) (W.retI (W.retI ?_))
          rw [find_none hlt] at hgo
          exact ⟨wrap_succ (by omega), hgo⟩
    · rintro s ⟨rfl, hgo⟩
      refine W.iteF (by simp) (W.retI (W.retI ?_))
      rw [List.drop_length] at hgo
      rw [← hgo] at h
      exact h
end Go.Proofs.Ytfekobhcekcniaa.VX

set_option linter.unusedVariables false
set_option linter.unusedSimpArgs false
namespace Go.Proofs.Ytfekobhcekcniaa.VX
/-- A certificate's lists, within what is encoded. -/
structure Fine (sp pl : Rws) : Prop where
  a : sp.length ≤ 65
  b : pl.length ≤ 64
  c : ∀ r ∈ pl, (cR r 0).length ≤ 1024
  sp : num sp
  pl : ∀ r ∈ pl, num (cR r 0)
theorem Fine.get {sp pl : Rws} (h : Fine sp pl) {i : Nat} (hi : i < pl.length) : (cR (pl.getD i []) 0).length ≤ 1024 ∧ num (cR (pl.getD i []) 0) := by
  have hm : pl.getD i [] ∈ pl := by
    rw [show pl.getD i [] = pl[i] by simp [hi]]
    exact List.getElem_mem hi
  exact ⟨h.c _ hm, h.pl _ hm⟩
theorem Fine.plB_len {sp pl : Rws} (h : Fine sp pl) (i : Nat) : ((pl.take i).flatMap plB).length ≤ 61450 * 64 := by
  have h1 : ((pl.take i).flatMap plB).length ≤ 61450 * (pl.take i).length := flat_len fun r hr => by
    have hr := List.mem_of_mem_take hr
    have h2 := chB_len (h.pl r hr)
    have h3 := h.c r hr
    have h4 := uI_len ((cR r 0).length : Int)
    simp only [plB, List.length_append]; omega
  have h2 : (pl.take i).length ≤ 64 := by have := h.b; simp; omega
  omega
/-- What stands before the channels. -/
def preB (sp pl : Rws) : List Nat := [83, 87, 67, 49] ++ uI (sp.length : Int) ++ sp.flatMap spB ++ uI (pl.length : Int)
theorem preB_len {sp pl : Rws} (h : Fine sp pl) : (preB sp pl).length ≤ 1324 := by
  have h1 := uI_len (sp.length : Int)
  have h2 := uI_len (pl.length : Int)
  have h3 := spB_len h.sp
  have h4 := h.a
  simp only [preB, List.length_append, List.length_cons, List.length_nil]; omega
theorem g_seal_Encode_ok (b b' : Bool) (sp pl : Rws) (h0 : (hd sp pl).1 = 0 → Fine sp pl) {R : Int × Int × Int × Bool × Rws → Prop}
    (h : (hd sp pl).1 ≠ 0 → R ((hd sp pl).1, (hd sp pl).2.1, (hd sp pl).2.2, true, [])) (h' : (hd sp pl).1 = 0 → R (0, 0, 0, false, rowsB (encB sp pl))) : (g_seal_Encode b sp b' pl).run R := by
  unfold g_seal_Encode
  refine W.bindI (g_seal_check_ok _ _ _ _ ?_)
  refine W.iteC (fun e => W.retI (h (by simpa using e))) (fun e => ?_)
  have e : (hd sp pl).1 = 0 := by simpa using e
  have hF := h0 e
  replace h' := h' e
  have hA := hF.a
  have hB := hF.b
  have l1 := uI_len (sp.length : Int)
  have l2 := uI_len (pl.length : Int)
  have l3 := spB_len hF.sp
  have lp := preB_len hF
  refine W.bindI (PutU_uI _ _ _ (by simp) ?_)
  refine W.bindI (g_seal_put_ok _ _ _ _ hF.sp hF.a (by simp [rowsB_len]; omega) fun c _ => ?_)
  refine W.bindI (PutU_uI _ _ _ (by simp only [List.length_append, rowsB_len, List.length_cons, List.length_nil]; omega) ?_)
  have e0 : [[I 83], [I 87], [I 67], [I 49]] ++ rowsB (uI (sp.length : Int)) ++ rowsB (sp.flatMap spB) ++ rowsB (uI (pl.length : Int)) = rowsB (preB sp pl) := by
    simp only [preB, rowsB_app]; rfl
  refine W.bindI (W.loop_for pl.length (fun i s => s.1 = (i : Int) ∧ s.2.1 = false ∧ s.2.2 = rowsB (preB sp pl ++ (pl.take i).flatMap plB)) ?_ ?_ ⟨rfl, rfl, by simpa using e0⟩)
  · rintro i ⟨s1, s2, s3⟩ hi ⟨rfl, rfl, rfl⟩
    obtain ⟨hc, hn⟩ := hF.get hi
    have lq := hF.plB_len i
    refine W.iteT (by simpa using hi) (W.needI (by constructor <;> omega) ?_)
    simp only [Int.toNat_natCast, rr_eq]
    have lu := uI_len ((cR (pl.getD i []) 0).length : Int)
    refine W.bindI (PutU_uI _ _ _ (by simp only [rowsB_len, List.length_append]; omega) ?_)
    refine W.bindI (W.loop_for (cR (pl.getD i []) 0).length (fun j s => s.1 = (j : Int) ∧ s.2.1 = false ∧ s.2.2 = rowsB (preB sp pl ++ (pl.take i).flatMap plB ++ uI ((cR (pl.getD i []) 0).length : Int) ++ ((cR (pl.getD i []) 0).take j).flatMap chB)) ?_ ?_ ⟨rfl, rfl, by simp [rowsB_app]⟩)
    · rintro j ⟨s1, s2, s3⟩ hj ⟨rfl, rfl, rfl⟩
      refine W.iteT (by simpa using hj) (W.needI (by constructor <;> omega) ?_)
      simp only [Int.toNat_natCast, ri_eq]
      have lc := chB_len (num_take hn j)
      have lj : ((cR (pl.getD i []) 0).take j).length ≤ 1024 := by simp; omega
      have m0 := uI_len (cI ((cR (pl.getD i []) 0).getD j []) 0)
      have m1 := uI_len (cI ((cR (pl.getD i []) 0).getD j []) 1)
      have k2 := num_get hn j 2
      have k3 := num_get hn j 3
      have k4 := num_get hn j 4
      have k5 := num_get hn j 5
      refine W.bindI (PutU_uI _ _ _ (by simp) (W.bindI (PutU_uI _ _ _ (by simp only [List.nil_append, rowsB_len]; omega) ?_)))
      refine W.needI (by simp only [List.nil_append, rowsB_len, List.length_append]; omega) ?_
      refine W.bindI (g_seal_put_ok _ _ _ _ (fun r hr k => ?_) (by simp) (by simp only [List.nil_append, rowsB_len, List.length_append]; omega) fun c hc0 => ?_)
      · rcases List.mem_cons.1 hr with rfl | hr
        · match k with
          | 0 => exact k2
          | 1 => exact k3
          | k + 2 => simp [cI, in64, AV.toInt]
        · rcases List.mem_cons.1 hr with rfl | hr
          · match k with
            | 0 => exact k4
            | 1 => exact k5
            | k + 2 => simp [cI, in64, AV.toInt]
          · cases hr
      · refine W.retI ⟨wrap_succ (by omega), hc0 rfl, ?_⟩
        show _ ++ ([] ++ rowsB (uI (cI ((cR (pl.getD i []) 0).getD j []) 0)) ++ rowsB (uI (cI ((cR (pl.getD i []) 0).getD j []) 1))) ++ rowsB (uB (zz (cI ((cR (pl.getD i []) 0).getD j []) 2)) ++ uB (zz (cI ((cR (pl.getD i []) 0).getD j []) 3)) ++ ((uB (zz (cI ((cR (pl.getD i []) 0).getD j []) 4)) ++ uB (zz (cI ((cR (pl.getD i []) 0).getD j []) 5))) ++ [])) = _
        rw [take_flat hj]
        simp only [rowsB_app, chB, List.nil_append, List.append_nil, List.append_assoc]
    · rintro ⟨s1, s2, s3⟩ ⟨rfl, rfl, rfl⟩
      refine W.iteF (by simp) (W.retI (W.retI ⟨wrap_succ (by omega), rfl, ?_⟩))
      show rowsB _ = _
      rw [take_flat hi, List.take_length]
      simp only [plB, rowsB_app, List.append_assoc]
  · rintro ⟨s1, s2, s3⟩ ⟨rfl, rfl, rfl⟩
    refine W.iteF (by simp) (W.retI (W.retI ?_))
    rw [List.take_length]
    exact h'
theorem count_ok {x : Int} {b : Bool} {acc : Rws} (hl : acc.length + 10 ≤ 140737488355328) {R : Bool × Rws → Prop} (h : ∀ c, R (c, acc ++ rowsB (uI x))) : (g_ref16_count_o x b acc).run R := by
  unfold g_ref16_count_o
  obtain ⟨h1, h2⟩ := wrapu_nat x
  have h3 := uI_len x
  rw [← h1]
  exact W.bindI (g_ref04_U_ok h2 (W.needI (by have : (rowsB (uB (IntKind.u64.wrap x).toNat)).length ≤ 10 := by { rw [rowsB_len]; exact h3 }; simp only; omega) (W.retI (h _))))
theorem ends_ok {x y : Int} (hx : in64 x) (hy : in64 y) {b : Bool} {acc : Rws} (hl : acc.length + 20 ≤ 140737488355328) {R : Bool × Rws → Prop} (h : ∀ c, R (c, acc ++ rowsB (uB (zz x) ++ uB (zz y)))) : (g_ref16_ends_o x y b acc).run R := by
  unfold g_ref16_ends_o
  have h1 := zzB_len hx
  have h2 := zzB_len hy
  refine W.bindI (g_ref04_S_ok hx.1 hx.2 (W.needI (by simp only [rowsB_len]; omega) (W.bindI (g_ref04_S_ok hy.1 hy.2 (W.needI (by simp only [rowsB_len, List.length_append]; omega) (W.retI ?_))))))
  have := h (b && List.isEmpty (rowsB (uB (zz x))) && List.isEmpty (rowsB (uB (zz y))))
  rw [rowsB_app, ← List.append_assoc] at this
  exact this
theorem g_ref16_Bytes_ok (b b' : Bool) (sp pl : Rws) (hF : Fine sp pl) {R : Bool × Rws → Prop} (h' : ∀ c, R (c, rowsB (encB sp pl))) : (g_ref16_Bytes b sp b' pl).run R := by
  unfold g_ref16_Bytes
  have hA := hF.a
  have hB := hF.b
  have l1 := uI_len (sp.length : Int)
  have l2 := uI_len (pl.length : Int)
  have lp := preB_len hF
  refine W.bindI (count_ok (by simp) fun c => ?_)
  refine W.bindI (W.loop_for sp.length (fun i s => s.1 = (i : Int) ∧ s.2.2 = [[I 83], [I 87], [I 67], [I 49]] ++ rowsB (uI (sp.length : Int)) ++ rowsB ((sp.take i).flatMap spB)) ?_ ?_ ⟨rfl, by simp [rowsB]⟩)
  · rintro i ⟨s1, s2, s3⟩ hi ⟨rfl, rfl⟩
    refine W.iteT (by simpa using hi) (W.needI (by constructor <;> omega) ?_)
    have q0 := num_get hF.sp i 0
    have q1 := num_get hF.sp i 1
    have h0 := spB_len (num_take hF.sp i)
    have h3 : (sp.take i).length ≤ 65 := by simp; omega
    simp only [Int.toNat_natCast]
    refine W.bindI (ends_ok q0 q1 (by simp only [List.length_append, rowsB_len, List.length_cons, List.length_nil]; omega) fun c => W.retI ⟨wrap_succ (by omega), ?_⟩)
    show _ ++ rowsB (uB (zz (ri sp i 0)) ++ uB (zz (ri sp i 1))) = _
    rw [take_flat hi, rowsB_app (List.flatMap _ _), List.append_assoc]
    rfl
  · rintro ⟨s1, s2, s3⟩ ⟨rfl, rfl⟩
    refine W.iteF (by simp) (W.retI ?_)
    rw [List.take_length]
    have l3 := spB_len hF.sp
    refine W.bindI (count_ok (by simp only [List.length_append, rowsB_len, List.length_cons, List.length_nil]; omega) fun c => ?_)
    have e0 : [[I 83], [I 87], [I 67], [I 49]] ++ rowsB (uI (sp.length : Int)) ++ rowsB (sp.flatMap spB) ++ rowsB (uI (pl.length : Int)) = rowsB (preB sp pl) := by
      simp only [preB, rowsB_app]; rfl
    refine W.bindI (W.loop_for pl.length (fun i s => s.1 = (i : Int) ∧ s.2.2 = rowsB (preB sp pl ++ (pl.take i).flatMap plB)) ?_ ?_ ⟨rfl, by simpa using e0⟩)
    · rintro i ⟨s1, s2, s3⟩ hi ⟨rfl, rfl⟩
      obtain ⟨hc, hn⟩ := hF.get hi
      have lq := hF.plB_len i
      refine W.iteT (by simpa using hi) (W.needI (by constructor <;> omega) ?_)
      simp only [Int.toNat_natCast, rr_eq]
      have lu := uI_len ((cR (pl.getD i []) 0).length : Int)
      refine W.bindI (count_ok (by simp only [rowsB_len, List.length_append]; omega) fun c => ?_)
      refine W.bindI (W.loop_for (cR (pl.getD i []) 0).length (fun j s => s.1 = (j : Int) ∧ s.2.2 = rowsB (preB sp pl ++ (pl.take i).flatMap plB ++ uI ((cR (pl.getD i []) 0).length : Int) ++ ((cR (pl.getD i []) 0).take j).flatMap chB)) ?_ ?_ ⟨rfl, by simp [rowsB_app]⟩)
      · rintro j ⟨s1, s2, s3⟩ hj ⟨rfl, rfl⟩
        refine W.iteT (by simpa using hj) (W.needI (by constructor <;> omega) ?_)
        simp only [Int.toNat_natCast, ri_eq]
        have lc := chB_len (num_take hn j)
        have lj : ((cR (pl.getD i []) 0).take j).length ≤ 1024 := by simp; omega
        have m0 := uI_len (cI ((cR (pl.getD i []) 0).getD j []) 0)
        have m1 := uI_len (cI ((cR (pl.getD i []) 0).getD j []) 1)
        have k2 := num_get hn j 2
        have k3 := num_get hn j 3
        have k4 := num_get hn j 4
        have k5 := num_get hn j 5
        have z2 := zzB_len k2
        have z3 := zzB_len k3
        simp only [ri_eq] at k2 k3 k4 k5 z2 z3
        refine W.bindI (count_ok (by simp only [rowsB_len, List.length_append]; omega) fun c1 => W.bindI (count_ok (by simp only [rowsB_len, List.length_append]; omega) fun c2 => ?_))
        refine W.bindI (ends_ok k2 k3 (by simp only [rowsB_len, List.length_append]; omega) fun c3 => W.bindI (ends_ok k4 k5 (by simp only [rowsB_len, List.length_append]; omega) fun c4 => W.retI ⟨wrap_succ (by omega), ?_⟩))
        dsimp only
        rw [take_flat hj]
        simp only [rowsB_app, chB, List.append_assoc]
      · rintro ⟨s1, s2, s3⟩ ⟨rfl, rfl⟩
        refine W.iteF (by simp) (W.retI (W.retI ⟨wrap_succ (by omega), ?_⟩))
        show rowsB _ = _
        rw [take_flat hi, List.take_length]
        simp only [plB, rowsB_app, List.append_assoc]
    · rintro ⟨s1, s2, s3⟩ ⟨rfl, rfl⟩
      refine W.iteF (by simp) (W.retI (W.retI ?_))
      rw [List.take_length]
      exact h' s2
end Go.Proofs.Ytfekobhcekcniaa.VX

set_option linter.unusedVariables false
set_option linter.unusedSimpArgs false
set_option maxRecDepth 100000
set_option maxHeartbeats 0
namespace Go.Proofs.Ytfekobhcekcniaa.VX
theorem XSplit.tt' {b : Bool} {x y : Prop} (h : b = true) (h' : x) : XSplit b x y := ⟨fun _ => h', fun e => by rw [h] at e; cases e⟩
theorem XSplit.ff' {b : Bool} {x y : Prop} (h : b = false) (h' : y) : XSplit b x y := ⟨fun e => (by rw [h] at e; cases e), fun _ => h'⟩
theorem loop_go {σ ε : Type} {f : σ → W (σ ⊕ ε)} {s : σ} {R : ε → Prop} (h : (f s).run (W.on (fun s' => (W.loop f s').run R) R)) : (W.loop f s).pr R := W.loop_unroll h
attribute [local irreducible] W.loop
theorem fixed_ok : g_law16_fixed.run (fun b => b = true) := by
  iterate 2500 (all_goals ((conv => whnf); first | with_reducible exact rfl | with_reducible refine XNeed.mk (of_decide_eq_true (by decide +kernel)) ?_ | with_reducible refine XSplit.tt' (by decide +kernel) ?_ | with_reducible refine XSplit.ff' (by decide +kernel) ?_ | refine loop_go ?_ | decide +kernel))

end Go.Proofs.Ytfekobhcekcniaa.VX

set_option linter.unusedVariables false
set_option linter.unusedSimpArgs false
namespace Go.Proofs.Ytfekobhcekcniaa.VX
theorem g_ref16_whole_ok (x : Int) {R : Bool → Prop} (h : R (decide (0 ≤ x ∧ x ≤ 2147483647))) : (g_ref16_whole x).run R := by
  unfold g_ref16_whole
  refine W.retI ?_
  rwa [Bool.decide_and] at h
theorem g_ref16_Encode_ok (b b' : Bool) (sp pl : Rws) (h0 : (hd sp pl).1 = 0 → Fine sp pl) {R : Int × Int × Int × Bool × Rws → Prop}
    (h : (hd sp pl).1 ≠ 0 → R ((hd sp pl).1, (hd sp pl).2.1, (hd sp pl).2.2, true, [])) (h' : (hd sp pl).1 = 0 → ∀ c, R (0, 0, 0, c, rowsB (encB sp pl))) : (g_ref16_Encode b sp b' pl).run R := by
  unfold g_ref16_Encode
  refine W.iteC (fun e => ?_) (fun e => ?_)
  · have e : 65 < sp.length ∨ 64 < pl.length := by simp at e; omega
    have e1 : hd sp pl = (42, 0, 0) := by unfold hd; rw [if_pos e]
    rw [e1] at h
    exact W.retI (h (by decide))
  · have e : ¬ (65 < sp.length ∨ 64 < pl.length) := by simp at e; omega
    have e1 : hd sp pl = hdGo pl 0 := by unfold hd; rw [if_neg e]
    rw [e1] at h h' h0
    refine W.bindI (W.loop_for pl.length (fun i s => s = (i : Int) ∧ hdGo (pl.drop i) i = hdGo pl 0) ?_ ?_ ⟨rfl, rfl⟩)
    · rintro i s hi ⟨rfl, hgo⟩
      rw [drop_get hi, hdGo_cons] at hgo
      refine W.iteT (by simpa using hi) (W.needI (by constructor <;> omega) ?_)
      simp only [Int.toNat_natCast, rr_eq]
      refine W.iteC (fun e1 => ?_) (fun e1 => ?_)
      · have e1 : 1024 < (cR (pl.getD i []) 0).length := by have := of_decide_eq_true e1; omega
        rw [if_pos e1] at hgo
        rw [← hgo] at h
        refine W.retI (W.retI ?_)
        rw [wrap_succ (by omega)]
        exact h (show (42 : Int) ≠ 0 by decide)
      · have e1 : ¬ 1024 < (cR (pl.getD i []) 0).length := by have := of_decide_eq_false e1; omega
        rw [if_neg e1] at hgo
        refine W.bindI (W.loop_for (cR (pl.getD i []) 0).length (fun j s => s = (j : Int) ∧ ∀ k, k < j → badCh ((cR (pl.getD i []) 0).getD k []) = false) ?_ ?_ ⟨rfl, fun k hk => absurd hk (Nat.not_lt_zero _)⟩)
        · rintro j s hj ⟨rfl, hlt⟩
          refine W.iteT (by simpa using hj) (W.needI (by constructor <;> omega) ?_)
          simp only [Int.toNat_natCast, ri_eq]
          refine W.bindI (W.mono (R := fun v4 : Bool × Bool × Bool × Bool => v4.2.2.2 = badCh ((cR (pl.getD i []) 0).getD j [])) _ (fun v4 hv4 => ?_) ?_)
          case refine_2 =>
            refine W.bindI (g_ref16_whole_ok _ (W.iteC (fun e2 => W.retI ?_) (fun e2 => W.bindI (g_ref16_whole_ok _ (W.retI ?_)))))
            · simp only [Bool.not_eq_true', decide_eq_false_iff_not] at e2
              simp only [badCh]
              symm
              simp only [Bool.not_eq_true', decide_eq_false_iff_not]
              omega
            · simp only [Bool.not_eq_false', decide_eq_true_eq] at e2
              simp only [badCh]
              congr 1
              rw [decide_eq_decide]
              omega
          case refine_1 =>
            rw [hv4]
            refine W.iteC (fun e2 => ?_) (fun e2 => ?_)
            · refine W.retI (W.retI (W.retI ?_))
              rw [find_some hj e2 hlt] at hgo
              rw [← hgo] at h
              simp only [wrap_succ (show i ≤ 140737488355328 by omega), wrap_succ (show j ≤ 140737488355328 by omega)]
              exact h (show (2 : Int) ≠ 0 by decide)
            · refine W.retI ⟨wrap_succ (by omega), fun k hk => ?_⟩
              by_cases hkj : k = j
              · subst hkj; exact e2
              · exact hlt k (by omega)
        · rintro s ⟨rfl, hlt⟩
          refine W.iteF (by simp) (W.retI (W.retI ?_))
          rw [find_none hlt] at hgo
          exact ⟨wrap_succ (by omega), hgo⟩
    · rintro s ⟨rfl, hgo⟩
      refine W.iteF (by simp) (W.retI ?_)
      rw [List.drop_length] at hgo
      have hz : (hdGo pl 0).1 = 0 := by rw [← hgo]; rfl
      exact W.bindI (g_ref16_Bytes_ok _ _ _ _ (h0 hz) fun c => W.retI (h' hz c))

theorem g_law16_same_ok (b b' : Bool) (l : Rws) (hl : l.length ≤ 140737488355328) {R : Bool → Prop} (h : R true) : (g_law16_same b l b' l).run R := by
  unfold g_law16_same
  refine W.iteF (by simp) (W.bindI (W.loop_for l.length (fun i s => s = (i : Int)) ?_ ?_ rfl))
  · rintro i s hi rfl
    refine W.iteT (by simpa using hi) (W.needI (by constructor <;> omega) (W.needI (by constructor <;> omega) (W.iteF (by simp) (W.retI (wrap_succ (by omega))))))
  · rintro s rfl
    exact W.iteF (by simp) (W.retI (W.retI h))
/-- Lists of plans that hold the same channels. -/
def eqPl (pl pl' : Rws) : Prop := pl.length = pl'.length ∧ ∀ i, i < pl.length → cR (pl.getD i []) 0 = cR (pl'.getD i []) 0
theorem g_ref15_Same_ok (a0 a2 a4 a6 : Bool) (sp pl pl' : Rws) (hsp : sp.length ≤ 140737488355328) (hpl : pl.length ≤ 140737488355328) (hpn : ∀ i, (cR (pl.getD i []) 0).length ≤ 140737488355328) (he : eqPl pl pl') {R : Bool → Prop} (h : R true) : (g_ref15_Same a0 sp a2 pl a4 sp a6 pl').run R := by
  unfold g_ref15_Same
  refine W.iteF (by simp [he.1]) (W.bindI (W.loop_for sp.length (fun i s => s = (i : Int)) ?_ ?_ rfl))
  · rintro i s hi rfl
    refine W.iteT (by simpa using hi) (W.needI (by constructor <;> omega) (W.needI (by constructor <;> omega) (W.iteF (by simp) (W.retI (wrap_succ (by omega))))))
  · rintro s rfl
    refine W.iteF (by simp) (W.retI (W.bindI (W.loop_for pl.length (fun i s => s = (i : Int)) ?_ ?_ rfl)))
    · rintro i s hi rfl
      have hl := he.1
      refine W.iteT (by simpa using hi) (W.needI (by constructor <;> omega) (W.needI (by constructor <;> omega) ?_))
      simp only [Int.toNat_natCast, rr_eq, ← he.2 i hi]
      refine W.iteF (by simp) (W.needI (by constructor <;> omega) (W.bindI (W.loop_for (cR (pl.getD i []) 0).length (fun i s => s = (i : Int)) ?_ ?_ rfl)))
      · rintro j s hj rfl
        have := hpn i
        refine W.iteT (by simpa using hj) (W.needI (by constructor <;> omega) (W.needI (by constructor <;> omega) (W.needI (by constructor <;> omega) (W.needI (by constructor <;> omega) ?_))))
        exact W.iteF (by simp) (W.retI (wrap_succ (by omega)))
      · rintro s rfl
        exact W.iteF (by simp) (W.retI (W.retI (wrap_succ (by omega))))
    · rintro s rfl
      exact W.iteF (by simp) (W.retI (W.retI h))
theorem g_ref15_Copy_ok (a0 a2 : Bool) (sp pl : Rws) (hsp : sp.length * 16 ≤ 140737488355328) (hpl : pl.length * 24 ≤ 140737488355328) (hpn : ∀ i, (cR (pl.getD i []) 0).length * 48 ≤ 140737488355328) {R : Bool × Rws × Bool × Rws → Prop} (h : ∀ c pl', eqPl pl pl' → R (false, sp, c, pl')) : (g_ref15_Copy a0 sp a2 pl).run R := by
  unfold g_ref15_Copy
  refine W.bindI (W.loop_for pl.length (fun i s => s.1 = (i : Int) ∧ s.2.2 = (pl.take i).map fun r => [AV.sl false 0 (cR r 0)]) ?_ ?_ ⟨rfl, rfl⟩)
  · rintro i ⟨s1, s2, s3⟩ hi ⟨rfl, rfl⟩
    have := hpn i
    refine W.iteT (by simpa using hi) (W.needI (by constructor <;> omega) ?_)
    simp only [Int.toNat_natCast, rr_eq]
    refine W.needI (by omega) (W.needI (by simp only [List.length_map, List.length_take]; omega) (W.retI ⟨wrap_succ (by omega), ?_⟩))
    rw [List.take_succ_eq_append_getElem hi, List.map_append]
    simp [hi]
  · rintro ⟨s1, s2, s3⟩ ⟨rfl, rfl⟩
    refine W.iteF (by simp) (W.retI (W.needI (by omega) (W.retI (h _ _ ⟨by simp, fun i hi => ?_⟩))))
    simp [hi, cR, AV.toRows]
end Go.Proofs.Ytfekobhcekcniaa.VX

set_option linter.unusedVariables false
set_option linter.unusedSimpArgs false
namespace Go.Proofs.Ytfekobhcekcniaa.VX
def plans (pl : Rws) : List Rws := pl.map fun r => cR r 0
theorem eqPl_plans {pl pl' : Rws} (h : eqPl pl pl') : plans pl = plans pl' := by
  apply List.ext_getElem
  · simp [plans, h.1]
  · intro i h1 h2
    have hi : i < pl.length := by simpa [plans] using h1
    have hi' : i < pl'.length := by simpa [plans] using h2
    have := h.2 i hi
    simpa [plans, hi, hi'] using this
theorem hdGo_plans : ∀ {pl pl' : Rws} {i : Nat}, plans pl = plans pl' → hdGo pl i = hdGo pl' i
  | [], [], _, _ => rfl
  | [], _ :: _, _, h => by simp [plans] at h
  | _ :: _, [], _, h => by simp [plans] at h
  | r :: pl, r' :: pl', i, h => by
    simp only [plans, List.map_cons, List.cons.injEq] at h
    rw [hdGo_cons, hdGo_cons, h.1, hdGo_plans (i := i + 1) h.2]
theorem plB_plans : ∀ {pl pl' : Rws}, plans pl = plans pl' → pl.flatMap plB = pl'.flatMap plB
  | [], [], _ => rfl
  | [], _ :: _, h => by simp [plans] at h
  | _ :: _, [], h => by simp [plans] at h
  | r :: pl, r' :: pl', h => by
    simp only [plans, List.map_cons, List.cons.injEq] at h
    simp only [List.flatMap_cons, plB, h.1, plB_plans h.2]
theorem len_plans {pl pl' : Rws} (h : plans pl = plans pl') : pl.length = pl'.length := by
  have := congrArg List.length h
  simpa [plans] using this
theorem hd_plans {sp pl pl' : Rws} (h : plans pl = plans pl') : hd sp pl = hd sp pl' := by
  unfold hd
  rw [len_plans h, hdGo_plans h]
theorem encB_plans {sp pl pl' : Rws} (h : plans pl = plans pl') : encB sp pl = encB sp pl' := by
  unfold encB
  rw [len_plans h, plB_plans h]
theorem mem_plans {pl : Rws} {p : Rws → Prop} : (∀ r ∈ pl, p (cR r 0)) ↔ ∀ q ∈ plans pl, p q := by simp [plans]
theorem fine_of {sp pl : Rws} (hs : num sp) (hp : ∀ r ∈ pl, num (cR r 0)) (h : (hd sp pl).1 = 0) : Fine sp pl := by
  obtain ⟨_, h1, h2, h3⟩ := hd_ok h
  exact ⟨h1, h2, fun r hr => (h3 r hr).1, hs, hp⟩
theorem encB_len {sp pl : Rws} (h : Fine sp pl) : (encB sp pl).length ≤ 4000000 := by
  have h1 := preB_len h
  have h2 := h.plB_len pl.length
  rw [List.take_length] at h2
  have e : encB sp pl = preB sp pl ++ pl.flatMap plB := rfl
  rw [e, List.length_append]; omega
theorem g_law16_SealEncodes_ok (a0 a2 : Bool) (sp pl : Rws) (hs : num sp) (hp : ∀ r ∈ pl, num (cR r 0)) (hsp : sp.length * 16 ≤ 140737488355328) (hpl : pl.length * 24 ≤ 140737488355328) (hpn : ∀ r ∈ pl, (cR r 0).length * 48 ≤ 140737488355328) :
    (g_law16_SealEncodes a0 sp a2 pl).run (fun b => b = true) := by
  unfold g_law16_SealEncodes
  have hpi : ∀ i, (cR (pl.getD i []) 0).length * 48 ≤ 140737488355328 := fun i => by
    by_cases hi : i < pl.length
    · rw [show pl.getD i [] = pl[i] by simp [hi]]
      exact hpn _ (List.getElem_mem hi)
    · rw [show pl.getD i [] = [] by simp [Nat.le_of_not_lt hi]]
      simp [cR, AV.toRows]
  refine W.bindI (g_ref15_Copy_ok _ _ _ _ hsp hpl hpi fun c pl' he => ?_)
  have hq := eqPl_plans he
  have hp' : ∀ r ∈ pl', num (cR r 0) := mem_plans.2 (hq ▸ mem_plans.1 hp)
  have hh := hd_plans (sp := sp) hq
  have hE := encB_plans (sp := sp) hq
  have fin : ∀ v1 v2 : Int × Int × Int × Bool × Rws, v1.1 = v2.1 → v1.2.1 = v2.2.1 → v1.2.2.1 = v2.2.2.1 → v1.2.2.2.2 = v2.2.2.2.2 → v1.2.2.2.2.length ≤ 140737488355328 →
      ((g_law16_fixed.bind fun v3 => W.ite (v3 && (v1.fst == v2.fst && (v1.snd.fst == v2.snd.fst && v1.snd.snd.fst == v2.snd.snd.fst))) (W.bind (g_law16_same (v1.snd.snd.snd.fst) (v1.snd.snd.snd.snd) (v2.snd.snd.snd.fst) (v2.snd.snd.snd.snd)) fun v4 =>
        W.ite (v4) (W.bind (g_ref15_Same (a0) (sp) (a2) (pl) (false) (sp) (c) (pl')) fun v5 => W.ret v5) (W.ret false)) (W.ret false)).bind fun v6 => W.ret v6).run (fun b => b = true) := by
    intro v1 v2 q1 q2 q3 q4 q5
    refine W.bindI (W.bindI (W.mono _ (fun v3 hv3 => ?_) fixed_ok))
    subst hv3
    refine W.iteT (by simp [q1, q2, q3]) ?_
    rw [← q4]
    refine W.bindI (g_law16_same_ok _ _ _ q5 (W.iteT rfl (W.bindI (g_ref15_Same_ok _ _ _ _ _ _ _ (by omega) (by omega) (fun i => by have := hpi i; omega) he (W.retI (W.retI rfl))))))
  refine W.bindI (g_seal_Encode_ok _ _ _ _ (fine_of hs hp) (fun hne => ?_) (fun hz => ?_))
  · refine W.bindI (g_ref16_Encode_ok _ _ _ _ (fine_of hs hp') (fun _ => ?_) (fun hz => absurd (hh.trans rfl ▸ hz) hne))
    rw [← hh]
    exact fin _ _ rfl rfl rfl rfl (by simp)
  · refine W.bindI (g_ref16_Encode_ok _ _ _ _ (fine_of hs hp') (fun hne => absurd (hh ▸ hz) hne) (fun _ c2 => ?_))
    rw [← hE]
    refine fin _ _ rfl rfl rfl rfl ?_
    have := encB_len (fine_of hs hp hz)
    simp only [rowsB_len]; omega
end Go.Proofs.Ytfekobhcekcniaa.VX

set_option linter.unusedVariables false
set_option linter.unusedSimpArgs false
namespace Go.Proofs.Ytfekobhcekcniaa.VX
/-- Rows of bytes. -/
def byt (l : Rws) : Prop := ∀ r ∈ l, 0 ≤ cI r 0 ∧ cI r 0 ≤ 255
def gvGo : Rws → Nat → Nat → Nat × Nat × Int
  | [], _, _ => (0, 0, 40)
  | r :: rest, i, acc =>
    if i = 9 ∧ 1 < (cI r 0).toNat then (0, 0, 41)
    else if (cI r 0).toNat < 128 then (if 0 < i ∧ (cI r 0).toNat = 0 then (0, 0, 41) else (acc + (cI r 0).toNat * 2 ^ (7 * i), i + 1, 0))
    else gvGo rest (i + 1) (acc + ((cI r 0).toNat - 128) * 2 ^ (7 * i))
/-- The number at the head of the bytes: the number, its length, or the fault. -/
def gv (l : Rws) : Nat × Nat × Int := gvGo l 0 0
theorem gvGo_cons (r : List AV) (rest : Rws) (i acc : Nat) : gvGo (r :: rest) i acc = if i = 9 ∧ 1 < (cI r 0).toNat then (0, 0, 41)
    else if (cI r 0).toNat < 128 then (if 0 < i ∧ (cI r 0).toNat = 0 then (0, 0, 41) else (acc + (cI r 0).toNat * 2 ^ (7 * i), i + 1, 0))
    else gvGo rest (i + 1) (acc + ((cI r 0).toNat - 128) * 2 ^ (7 * i)) := rfl
theorem byt_get {l : Rws} (h : byt l) (i : Nat) : 0 ≤ ri l i 0 ∧ ri l i 0 ≤ 255 := by
  rw [ri_eq]
  by_cases hi : i < l.length
  · rw [show l.getD i [] = l[i] by simp [hi]]
    exact h _ (List.getElem_mem hi)
  · rw [show l.getD i [] = [] by simp [Nat.le_of_not_lt hi]]
    simp [cI, AV.toInt]
theorem byt_drop {l : Rws} (h : byt l) (n : Nat) : byt (l.drop n) := fun r hr => h r (List.mem_of_mem_drop hr)
theorem or_u64 {a c k : Nat} (ha : a < 2 ^ k) (ha2 : a < 18446744073709551616) (hc : c * 2 ^ k < 18446744073709551616) : ibits BinOp.or IntKind.u64 (a : Int) ((c * 2 ^ k : Nat) : Int) = ((a + c * 2 ^ k : Nat) : Int) := by
  have hib : ∀ x y : Int, ibits BinOp.or IntKind.u64 x y = IntKind.u64.wrap (((BitVec.ofInt 64 x ||| BitVec.ofInt 64 y : BitVec 64).toNat : Nat) : Int) := fun _ _ => rfl
  have e : a ||| (c * 2 ^ k) = a + c * 2 ^ k := by
    have := Nat.two_pow_add_eq_or_of_lt ha c
    rw [Nat.or_comm, Nat.mul_comm c, ← this, Nat.add_comm]
  by_cases h0 : c = 0
  · subst h0
    simp only [Nat.zero_mul, Nat.add_zero]
    rw [hib]
    have e0 : (BitVec.ofInt 64 ((0 : Nat) : Int)) = 0#64 := by decide
    rw [e0]
    have e2 : (BitVec.ofInt 64 (a : Int) ||| 0#64).toNat = a := by
      rw [BitVec.or_zero, BitVec.ofInt_natCast, BitVec.toNat_ofNat]; omega
    rw [e2, wrapu64_in] <;> omega
  · have hk : 2 ^ k ≤ c * 2 ^ k := Nat.le_mul_of_pos_left _ (by omega)
    rw [hib, BitVec.ofInt_natCast, BitVec.ofInt_natCast, BitVec.toNat_or, BitVec.toNat_ofNat, BitVec.toNat_ofNat, Nat.mod_eq_of_lt (by omega), Nat.mod_eq_of_lt (by omega), e]
    have : a + c * 2 ^ k < 18446744073709551616 := by
      rw [← e]; exact Nat.or_lt_two_pow (n := 64) (by omega) (by omega)
    rw [wrapu64_in] <;> omega
theorem ten {i : Nat} (h : i ≤ 9) : i = 0 ∨ i = 1 ∨ i = 2 ∨ i = 3 ∨ i = 4 ∨ i = 5 ∨ i = 6 ∨ i = 7 ∨ i = 8 ∨ i = 9 := by omega
theorem part_lt {i b : Nat} (hi : i ≤ 9) (hb : b ≤ 255) (h9 : i = 9 → b ≤ 1) : b % 128 * 2 ^ (7 * i) < 18446744073709551616 := by
  rcases ten hi with rfl | rfl | rfl | rfl | rfl | rfl | rfl | rfl | rfl | rfl <;> simp <;> omega
theorem acc_lt {i acc : Nat} (hi : i ≤ 9) (h : acc < 2 ^ (7 * i)) : acc < 18446744073709551616 := by
  rcases ten hi with rfl | rfl | rfl | rfl | rfl | rfl | rfl | rfl | rfl | rfl <;> simp at h <;> omega
theorem acc_next {i acc c : Nat} (h : acc < 2 ^ (7 * i)) (hc : c ≤ 127) : acc + c * 2 ^ (7 * i) < 2 ^ (7 * (i + 1)) := by
  have e : 2 ^ (7 * (i + 1)) = 128 * 2 ^ (7 * i) := by rw [show 7 * (i + 1) = 7 * i + 7 by omega, Nat.pow_add]; omega
  have h2 : c * 2 ^ (7 * i) ≤ 127 * 2 ^ (7 * i) := Nat.mul_le_mul_right _ hc
  rw [e]; omega
theorem exp7 {i : Nat} (hi : i ≤ 9) : min (IntKind.u64.wrap (IntKind.i64.wrap (7 * (i : Int)))).toNat 64 = 7 * i := by
  rw [wrap64_in (x := 7 * (i : Int)) (by omega) (by omega), wrapu64_in (by omega) (by omega)]; omega
theorem get_term {i acc : Nat} {x : Int} (hi : i ≤ 9) (hx : 0 ≤ x ∧ x ≤ 255) (h9 : i = 9 → x ≤ 1) (ha : acc < 2 ^ (7 * i)) :
    ibits BinOp.or IntKind.u64 (acc : Int) (IntKind.u64.wrap ((IntKind.u64.wrap x).tmod 128 * 2 ^ min (IntKind.u64.wrap (IntKind.i64.wrap (7 * (i : Int)))).toNat 64)) = ((acc + x.toNat % 128 * 2 ^ (7 * i) : Nat) : Int) := by
  have hp := part_lt (b := x.toNat) hi (by omega) (fun e => by have := h9 e; omega)
  rw [exp7 hi, wrapu64_in (x := x) (by omega) (by omega)]
  have e1 : x.tmod 128 * 2 ^ (7 * i) = ((x.toNat % 128 * 2 ^ (7 * i) : Nat) : Int) := by
    have : x.tmod 128 = ((x.toNat % 128 : Nat) : Int) := by rw [Int.tmod_eq_emod_of_nonneg hx.1]; omega
    rw [this]; simp
  rw [e1, wrapu64_in (by omega) (by omega)]
  exact or_u64 ha (acc_lt hi ha) hp
theorem g_ref04_Get_ok (b : Bool) (l : Rws) (hl : byt l) (hn : l.length ≤ 140737488355328) {R : Int × Int × Int → Prop} (h : R (((gv l).1 : Nat), ((gv l).2.1 : Nat), (gv l).2.2)) : (g_ref04_Get b l).run R := by
  unfold g_ref04_Get
  refine W.bindI (W.loop_for l.length (fun i s => ∃ acc : Nat, s = ((acc : Int), (i : Int)) ∧ i ≤ 9 ∧ acc < 2 ^ (7 * i) ∧ gvGo (l.drop i) i acc = gv l) ?_ ?_ ⟨0, rfl, by omega, by simp, rfl⟩)
  · rintro i s hi ⟨acc, rfl, h9, ha, hg⟩
    have hb := byt_get hl i
    rw [drop_get hi, gvGo_cons, ← ri_eq] at hg
    simp only [Int.toNat_natCast]
    have ew : IntKind.u64.wrap (ri l i 0) = ri l i 0 := wrapu64_in (by omega) (by omega)
    refine W.iteT (by simp; omega) (W.needI (by constructor <;> omega) (W.iteC (fun e => ?_) (fun e => ?_)))
    · simp only [Bool.and_eq_true, beq_iff_eq, decide_eq_true_eq, ew] at e
      rw [if_pos (by omega)] at hg
      rw [← hg] at h
      exact W.retI (W.retI h)
    · have e : ¬ (i = 9 ∧ 1 < (ri l i 0).toNat) := by
        simp only [ew, Bool.and_eq_false_iff, beq_eq_false_iff_ne, decide_eq_false_iff_not] at e
        omega
      rw [if_neg e] at hg
      refine W.needI (by rw [wrap64_in (by omega) (by omega), wrapu64_in (by omega) (by omega)]; omega) (W.iteC (fun e1 => ?_) (fun e1 => ?_))
      · simp only [ew, decide_eq_true_eq] at e1
        rw [if_pos (by omega)] at hg
        refine W.iteC (fun e2 => ?_) (fun e2 => ?_)
        · simp only [ew, Bool.and_eq_true, beq_iff_eq, decide_eq_true_eq] at e2
          rw [if_pos (by omega)] at hg
          rw [← hg] at h
          exact W.retI (W.retI h)
        · have e2 : ¬ (0 < i ∧ (ri l i 0).toNat = 0) := by
            simp only [ew, Bool.and_eq_false_iff, beq_eq_false_iff_ne, decide_eq_false_iff_not] at e2
            omega
          rw [if_neg e2] at hg
          refine W.retI (W.retI ?_)
          rw [get_term h9 hb (fun e9 => by omega) ha, wrap_succ (by omega), Nat.mod_eq_of_lt (by omega)]
          rw [← hg] at h
          exact h
      · simp only [ew, decide_eq_false_iff_not] at e1
        rw [if_neg (by omega)] at hg
        refine W.retI ⟨_, by rw [get_term h9 hb (fun e9 => by omega) ha, wrap_succ (by omega)], by omega, acc_next ha (by omega), ?_⟩
        rw [show (ri l i 0).toNat % 128 = (ri l i 0).toNat - 128 by omega]
        exact hg
  · rintro s ⟨acc, rfl, h9, ha, hg⟩
    rw [List.drop_length] at hg
    refine W.iteF (by simp) (W.retI (W.retI ?_))
    rw [← hg] at h
    exact h
end Go.Proofs.Ytfekobhcekcniaa.VX

set_option linter.unusedVariables false
set_option linter.unusedSimpArgs false
namespace Go.Proofs.Ytfekobhcekcniaa.VX
theorem andU8 (b : BitVec 8) : b &&& 127#8 = BitVec.ofNat 8 (b.toNat % 128) := by
  revert b; decide
theorem and127 {x : Int} (hx : 0 ≤ x ∧ x ≤ 255) : ibits BinOp.and IntKind.u8 x 127 = ((x.toNat % 128 : Nat) : Int) := by
  show IntKind.u8.wrap (((BitVec.ofInt 8 x &&& BitVec.ofInt 8 127 : BitVec 8).toNat : Nat) : Int) = _
  obtain ⟨n, rfl⟩ := Int.eq_ofNat_of_zero_le hx.1
  have h2 : (BitVec.ofInt 8 (n : Int)) = BitVec.ofNat 8 n := by rw [BitVec.ofInt_natCast]
  have h3 : (BitVec.ofInt 8 127) = 127#8 := rfl
  rw [h2, h3, andU8, IntKind.wrap_u8]
  simp
  omega
theorem and63 {i : Nat} (hi : i ≤ 9) : ibits BinOp.and IntKind.u64 (IntKind.u64.wrap (IntKind.i64.wrap (7 * (i : Int)))) 63 = ((7 * i : Nat) : Int) := by
  rw [wrap64_in (x := 7 * (i : Int)) (by omega) (by omega), wrapu64_in (by omega) (by omega)]
  rcases ten hi with rfl | rfl | rfl | rfl | rfl | rfl | rfl | rfl | rfl | rfl <;> decide
theorem g_rot_ok {i c : Nat} (hi : i ≤ 9) (hc : c ≤ 127) (h9 : i = 9 → c ≤ 1) {R : Int → Prop} (h : R ((c * 2 ^ (7 * i) : Nat) : Int)) : (g_math_bits_RotateLeft64 (c : Int) (IntKind.i64.wrap (7 * (i : Int)))).run R := by
  unfold g_math_bits_RotateLeft64
  rw [and63 hi]
  have hp := part_lt (b := c) hi (by omega) h9
  rw [Nat.mod_eq_of_lt (by omega)] at hp
  have e1 : IntKind.u64.wrap (64 - ((7 * i : Nat) : Int)) = ((64 - 7 * i : Nat) : Int) := by rw [wrapu64_in] <;> omega
  refine W.needI (by omega) (W.needI (by rw [e1]; omega) (W.retI ?_))
  rw [e1, show min ((7 * i : Nat) : Int).toNat 64 = 7 * i by omega, show min ((64 - 7 * i : Nat) : Int).toNat 64 = 64 - 7 * i by omega]
  have e2 : (c : Int) * 2 ^ (7 * i) = ((c * 2 ^ (7 * i) : Nat) : Int) := by simp
  have e3 : (c : Int).fdiv (2 ^ (64 - 7 * i)) = ((0 * 2 ^ 64 : Nat) : Int) := by
    have : (2 : Int) ^ (64 - 7 * i) = ((2 ^ (64 - 7 * i) : Nat) : Int) := by simp
    rw [this, Int.fdiv_eq_ediv_of_nonneg _ (Int.natCast_nonneg _)]
    have hlt : c < 2 ^ (64 - 7 * i) := by
      rcases ten hi with rfl | rfl | rfl | rfl | rfl | rfl | rfl | rfl | rfl | rfl <;> simp <;> omega
    have : ((c : Int) / ((2 ^ (64 - 7 * i) : Nat) : Int)) = ((c / 2 ^ (64 - 7 * i) : Nat) : Int) := rfl
    rw [this, Nat.div_eq_of_lt hlt]
  rw [e2, e3, wrapu64_in (by omega) (by omega), or_u64 (k := 64) (a := c * 2 ^ (7 * i)) (c := 0) (by have e64 : (2 : Nat) ^ 64 = 18446744073709551616 := by { decide }; rw [e64]; exact hp) hp (by simp)]
  simpa using h
/-- The rest of the bytes. -/
theorem rest_eq (l : Rws) (p : Nat) (hp : p ≤ l.length) : List.take (((l.length : Int)) - (p : Int)).toNat (List.drop ((p : Int)).toNat l) = l.drop p := by
  rw [Int.toNat_natCast]
  exact List.take_of_length_le (by simp)
theorem g_peek_ok (b : Bool) (l : Rws) (p : Nat) (hp : p ≤ l.length) (hl : byt l) (hn : l.length ≤ 140737488355328) {R : Int × Int × Int → Prop} (h : R (((gv (l.drop p)).1 : Nat), ((gv (l.drop p)).2.1 : Nat), (gv (l.drop p)).2.2)) : (g___wire_cursor__peek_p b l (p : Int)).run R := by
  unfold g___wire_cursor__peek_p
  simp only [rest_eq l p hp]
  have hd := byt_drop hl p
  have hdl : (l.drop p).length ≤ 140737488355328 := by simp; omega
  generalize l.drop p = m at h hd hdl
  refine W.needI (by omega) (W.bindI (W.loop_for m.length (fun i s => ∃ acc : Nat, s = ((acc : Int), (i : Int)) ∧ i ≤ 9 ∧ acc < 2 ^ (7 * i) ∧ gvGo (m.drop i) i acc = gv m) ?_ ?_ ⟨0, rfl, by omega, by simp, rfl⟩))
  · rintro i s hi ⟨acc, rfl, h9, ha, hg⟩
    have hb := byt_get hd i
    rw [drop_get hi, gvGo_cons, ← ri_eq] at hg
    simp only [Int.toNat_natCast]
    refine W.iteT (by simp; omega) (W.needI (by constructor <;> omega) (W.iteC (fun e => ?_) (fun e => ?_)))
    · simp only [Bool.and_eq_true, beq_iff_eq, decide_eq_true_eq] at e
      rw [if_pos (by omega)] at hg
      rw [← hg] at h
      exact W.retI (W.retI h)
    · have e : ¬ (i = 9 ∧ 1 < (ri m i 0).toNat) := by
        simp only [Bool.and_eq_false_iff, beq_eq_false_iff_ne, decide_eq_false_iff_not] at e
        omega
      rw [if_neg e] at hg
      rw [and127 hb, wrapu64_in (by omega) (by omega)]
      have hp := part_lt (b := (ri m i 0).toNat) h9 (by omega) (fun e9 => by omega)
      refine W.bindI (g_rot_ok h9 (by omega) (fun e9 => by omega) ?_)
      simp only [or_u64 ha (acc_lt h9 ha) hp, wrap_succ (show i ≤ 140737488355328 by omega)]
      refine W.iteC (fun e1 => ?_) (fun e1 => ?_)
      · simp only [decide_eq_true_eq] at e1
        rw [if_pos (by omega)] at hg
        refine W.iteC (fun e2 => ?_) (fun e2 => ?_)
        · simp only [Bool.and_eq_true, beq_iff_eq, decide_eq_true_eq] at e2
          rw [if_pos (by omega)] at hg
          rw [← hg] at h
          exact W.retI (W.retI h)
        · have e2 : ¬ (0 < i ∧ (ri m i 0).toNat = 0) := by
            simp only [Bool.and_eq_false_iff, beq_eq_false_iff_ne, decide_eq_false_iff_not] at e2
            omega
          rw [if_neg e2] at hg
          refine W.retI (W.retI ?_)
          rw [Nat.mod_eq_of_lt (by omega)]
          rw [← hg] at h
          exact h
      · simp only [decide_eq_false_iff_not] at e1
        rw [if_neg (by omega)] at hg
        refine W.retI ⟨_, rfl, by omega, acc_next ha (by omega), ?_⟩
        rw [show (ri m i 0).toNat % 128 = (ri m i 0).toNat - 128 by omega]
        exact hg
  · rintro s ⟨acc, rfl, h9, ha, hg⟩
    rw [List.drop_length] at hg
    refine W.iteF (by simp) (W.retI (W.retI ?_))
    rw [← hg] at h
    exact h
end Go.Proofs.Ytfekobhcekcniaa.VX

set_option linter.unusedVariables false
set_option linter.unusedSimpArgs false
namespace Go.Proofs.Ytfekobhcekcniaa.VX
theorem gvGo_ok : ∀ {l : Rws} {i acc v n : Nat}, byt l → i ≤ 9 → acc < 2 ^ (7 * i) → gvGo l i acc = (v, n, 0) → i < n ∧ n ≤ i + l.length ∧ n ≤ 10 ∧ v < 18446744073709551616
  | [], i, acc, v, n, _, _, _, h => by simp [gvGo] at h
  | r :: rest, i, acc, v, n, hb, hi, ha, h => by
    have hr := hb r (List.mem_cons_self ..)
    rw [gvGo_cons] at h
    split at h
    · simp at h
    · rename_i h9
      split at h
      · split at h
        · simp at h
        · rename_i hlt h0
          simp only [Prod.mk.injEq] at h
          obtain ⟨rfl, rfl, _⟩ := h
          refine ⟨by omega, by simp, by omega, ?_⟩
          have hp := part_lt (b := (cI r 0).toNat) hi (by omega) (fun e => by omega)
          rw [Nat.mod_eq_of_lt hlt] at hp
          by_cases h8 : i = 9
          · subst h8
            have : (cI r 0).toNat ≤ 1 := by omega
            have h2 : (cI r 0).toNat * 2 ^ (7 * 9) ≤ 1 * 2 ^ (7 * 9) := Nat.mul_le_mul_right _ this
            simp at ha h2 ⊢
            omega
          · have := acc_next ha (c := (cI r 0).toNat) (by omega)
            exact acc_lt (i := i + 1) (by omega) this
      · obtain ⟨q1, q2, q3, q4⟩ := gvGo_ok (fun x hx => hb x (List.mem_cons_of_mem _ hx)) (by omega) (acc_next ha (by omega)) h
        exact ⟨by omega, by simp; omega, q3, q4⟩
theorem gv_ok {l : Rws} {v n : Nat} (hb : byt l) (h : gv l = (v, n, 0)) : 0 < n ∧ n ≤ l.length ∧ n ≤ 10 ∧ v < 18446744073709551616 := by
  have := gvGo_ok hb (by omega) (by simp) h
  exact ⟨this.1, by omega, this.2.2.1, this.2.2.2⟩
def rdU (max : Nat) (l : Rws) : Except Int (Nat × Rws) := if (gv l).2.2 ≠ 0 then .error (gv l).2.2 else if max < (gv l).1 then .error 42 else .ok ((gv l).1, l.drop (gv l).2.1)
theorem rdU_err {max : Nat} {l : Rws} {e : Int} (h : rdU max l = .error e) : e ≠ 0 := by
  unfold rdU at h
  split at h
  · rename_i h1; simp only [Except.error.injEq] at h; subst h; exact h1
  · split at h
    · simp only [Except.error.injEq] at h; subst h; decide
    · cases h
theorem rdU_ok {max : Nat} {l rest : Rws} {v : Nat} (hb : byt l) (h : rdU max l = .ok (v, rest)) : v ≤ max ∧ v < 18446744073709551616 ∧ byt rest ∧ ∃ n, rest = l.drop n ∧ n ≤ l.length ∧ 0 < n := by
  unfold rdU at h
  split at h
  · cases h
  · rename_i h1
    split at h
    · cases h
    · rename_i h2
      simp only [Except.ok.injEq, Prod.mk.injEq] at h
      obtain ⟨rfl, rfl⟩ := h
      obtain ⟨q1, q2, q3, q4⟩ := gv_ok hb (v := (gv l).1) (n := (gv l).2.1) (by rw [← show (gv l).2.2 = 0 by omega])
      exact ⟨by omega, q4, byt_drop hb _, _, rfl, q2, q1⟩
/-- What a read comes to, at a place. -/
structure At (l : Rws) (p : Nat) (rest : Rws) : Prop where
  le : p ≤ l.length
  eq : l.drop p = rest
theorem take_ok (max : Nat) (b : Bool) (l : Rws) (p : Nat) (rest : Rws) (hp : At l p rest) (hl : byt l) (hn : l.length ≤ 140737488355328) (hmax : max < 18446744073709551616) {R : Int × Int × Int → Prop}
    (he : ∀ e, rdU max rest = .error e → R (0, e, p)) (hk : ∀ v rest' (p' : Nat), rdU max rest = .ok (v, rest') → At l p' rest' → R ((v : Int), 0, (p' : Int))) : (g___wire_Reader__take_p (max : Int) 0 b l (p : Int)).run R := by
  unfold g___wire_Reader__take_p
  obtain ⟨hp1, rfl⟩ := hp
  refine W.iteF (by simp) (W.bindI (g_peek_ok b l p hp1 hl hn ?_))
  have hd := byt_drop hl p
  by_cases h0 : (gv (l.drop p)).2.2 = 0
  · by_cases hm : max < (gv (l.drop p)).1
    · have e : rdU max (l.drop p) = .error 42 := by unfold rdU; rw [if_neg (by omega), if_pos hm]
      exact W.bindI (W.iteT (by simp [h0]; omega) (W.retI (W.iteT (by decide) (W.retI (he _ e)))))
    · have e : rdU max (l.drop p) = .ok ((gv (l.drop p)).1, (l.drop p).drop (gv (l.drop p)).2.1) := by unfold rdU; rw [if_neg (by omega), if_neg hm]
      obtain ⟨q1, q2, q3, q4⟩ := gv_ok hd (v := (gv (l.drop p)).1) (n := (gv (l.drop p)).2.1) (by rw [← h0])
      rw [List.length_drop] at q2
      refine W.bindI (W.iteF (by simp [h0]; omega) (W.retI (W.iteF (by simp [h0]) (W.retI ?_))))
      rw [show IntKind.i64.wrap ((p : Int) + ((gv (l.drop p)).2.1 : Int)) = ((p + (gv (l.drop p)).2.1 : Nat) : Int) by rw [wrap64_in] <;> omega]
      exact hk _ _ _ e ⟨by omega, by rw [List.drop_drop]⟩
  · have e : rdU max (l.drop p) = .error (gv (l.drop p)).2.2 := by unfold rdU; rw [if_pos h0]
    exact W.bindI (W.iteF (by simp [h0]) (W.retI (W.iteT (by simpa using h0) (W.retI (he _ e)))))
def unz (v : Nat) : Int := if v % 2 = 0 then ((v / 2 : Nat) : Int) else -((v / 2 : Nat) : Int) - 1
theorem xor_unz {v : Nat} (h : v < 18446744073709551616) : ibits BinOp.xor IntKind.i64 (IntKind.i64.wrap ((v : Int).fdiv 2)) (IntKind.i64.wrap (0 - IntKind.i64.wrap (ibits BinOp.and IntKind.u64 (v : Int) 1))) = unz v := by
  have h1 : ibits BinOp.and IntKind.u64 (v : Int) 1 = ((v % 2 : Nat) : Int) := by
    show IntKind.u64.wrap (((BitVec.ofInt 64 (v : Int) &&& BitVec.ofInt 64 1 : BitVec 64).toNat : Nat) : Int) = _
    have e1 : BitVec.ofInt 64 1 = 1#64 := by decide
    rw [e1, BitVec.ofInt_natCast, BitVec.toNat_and, BitVec.toNat_ofNat, Nat.mod_eq_of_lt (by omega), show (1#64).toNat = 1 from rfl, Nat.and_one_is_mod, wrapu64_in] <;> omega
  have h2 : (v : Int).fdiv 2 = ((v / 2 : Nat) : Int) := by rw [Int.fdiv_eq_ediv_of_nonneg _ (by omega)]; rfl
  rw [h1, h2, wrap64_in (x := ((v / 2 : Nat) : Int)) (by omega) (by omega), wrap64_in (x := ((v % 2 : Nat) : Int)) (by omega) (by omega), wrap64_in (x := 0 - ((v % 2 : Nat) : Int)) (by omega) (by omega)]
  have hib : ∀ x y : Int, ibits BinOp.xor IntKind.i64 x y = IntKind.i64.wrap (((BitVec.ofInt 64 x ^^^ BitVec.ofInt 64 y : BitVec 64).toNat : Nat) : Int) := fun _ _ => rfl
  rw [hib]
  unfold unz
  by_cases hz : v % 2 = 0
  · rw [if_pos hz, hz]
    have e : BitVec.ofInt 64 (0 - ((0 : Nat) : Int)) = 0#64 := by decide
    rw [e, BitVec.xor_zero, BitVec.ofInt_natCast, BitVec.toNat_ofNat, Nat.mod_eq_of_lt (by omega), wrap64_in] <;> omega
  · rw [if_neg hz, show v % 2 = 1 by omega]
    have e : BitVec.ofInt 64 (0 - ((1 : Nat) : Int)) = BitVec.allOnes 64 := by decide
    rw [e, BitVec.xor_allOnes, BitVec.toNat_not, BitVec.ofInt_natCast, BitVec.toNat_ofNat, Nat.mod_eq_of_lt (by omega), IntKind.wrap_i64]
    omega
def rdS (l : Rws) : Except Int (Int × Rws) := match rdU 18446744073709551615 l with
  | .ok (v, rest) => .ok (unz v, rest)
  | .error e => .error e
theorem S_ok (b : Bool) (l : Rws) (p : Nat) (rest : Rws) (hp : At l p rest) (hl : byt l) (hn : l.length ≤ 140737488355328) {R : Int × Int × Int → Prop}
    (he : ∀ e v, rdS rest = .error e → R (v, e, p)) (hk : ∀ v rest' (p' : Nat), rdS rest = .ok (v, rest') → At l p' rest' → R (v, 0, (p' : Int))) : (g___wire_Reader__S_p 0 b l (p : Int)).run R := by
  unfold g___wire_Reader__S_p
  have hr : byt rest := hp.eq ▸ byt_drop hl p
  refine W.bindI (take_ok 18446744073709551615 b l p rest hp hl hn (by omega) (fun e h => W.retI (he _ _ (by unfold rdS; rw [h]))) (fun v rest' p' h h' => W.retI ?_))
  have hv := (rdU_ok hr h).2.1
  show R (ibits BinOp.xor IntKind.i64 (IntKind.i64.wrap ((v : Int).fdiv 2)) (IntKind.i64.wrap (0 - IntKind.i64.wrap (ibits BinOp.and IntKind.u64 (v : Int) 1))), 0, (p' : Int))
  rw [xor_unz hv]
  exact hk _ _ _ (by unfold rdS; rw [h]) h'
theorem rdS_err {l : Rws} {e : Int} (h : rdS l = .error e) : e ≠ 0 := by
  unfold rdS at h
  cases hr : rdU 18446744073709551615 l with
  | ok x => rw [hr] at h; cases h
  | error e' => rw [hr] at h; cases h; exact rdU_err hr
theorem U_ok (b : Bool) (l : Rws) (p : Nat) (rest : Rws) (hp : At l p rest) (hl : byt l) (hn : l.length ≤ 140737488355328) {R : Int × Int × Int → Prop}
    (he : ∀ e, rdU 18446744073709551615 rest = .error e → R (0, e, p)) (hk : ∀ v rest' (p' : Nat), rdU 18446744073709551615 rest = .ok (v, rest') → At l p' rest' → R ((v : Int), 0, (p' : Int))) : (g___wire_Reader__U_p 0 b l (p : Int)).run R := by
  unfold g___wire_Reader__U_p
  exact W.bindI (take_ok 18446744073709551615 b l p rest hp hl hn (by omega) (fun e h => W.retI (he _ h)) (fun v rest' p' h h' => W.retI (hk _ _ _ h h')))
theorem sure_ok (a0 a1 a2 err : Int) (b : Bool) (l : Rws) (p : Int) {R : Unit ⊕ (Int × Int × Int × Int) → Prop} (h : err = 0 → R (.inl ())) (h' : err ≠ 0 → R (.inr (err, a1, a2, err))) : (g___seal_decoder__sure_p a0 a1 a2 err b l p).run R := by
  unfold g___seal_decoder__sure_p g___wire_Reader__Err_p g___seal_decoder__giveUp_p_2
  refine W.bindI (W.retI (W.iteC (fun e => W.bindI (W.retI (W.retI (h' (by simpa using e))))) (fun e => W.retI (h (by simpa using e)))))
theorem N_ok (max : Nat) (b : Bool) (l : Rws) (p : Nat) (rest : Rws) (hp : At l p rest) (hl : byt l) (hn : l.length ≤ 140737488355328) (hmax : max ≤ 9223372036854775807) {R : Int × Int × Int → Prop}
    (he : ∀ e, rdU max rest = .error e → R (0, e, p)) (hk : ∀ v rest' (p' : Nat), rdU max rest = .ok (v, rest') → At l p' rest' → R ((v : Int), 0, (p' : Int))) : (g___wire_Reader__N_p (max : Int) 0 b l (p : Int)).run R := by
  unfold g___wire_Reader__N_p
  have hr : byt rest := hp.eq ▸ byt_drop hl p
  refine W.iteT (by simp) ?_
  rw [wrapu64_in (x := (max : Int)) (by omega) (by omega)]
  refine W.bindI (take_ok max b l p rest hp hl hn (by omega) (fun e h => W.retI (he _ h)) (fun v rest' p' h h' => W.retI ?_))
  have hv := (rdU_ok hr h).1
  show R (IntKind.i64.wrap (v : Int), 0, (p' : Int))
  rw [wrap64_in (by omega) (by omega)]
  exact hk _ _ _ h h'
end Go.Proofs.Ytfekobhcekcniaa.VX

set_option linter.unusedVariables false
set_option linter.unusedSimpArgs false
namespace Go.Proofs.Ytfekobhcekcniaa.VX
/-- One after the other. -/
def andE {α β : Type} (x : Except Int (α × Rws)) (f : α → Rws → Except Int (β × Rws)) : Except Int (β × Rws) := match x with
  | .ok (a, rest) => f a rest
  | .error e => .error e
def rdSp (l : Rws) : Except Int ((Int × Int) × Rws) := andE (rdS l) fun lo r => andE (rdS r) fun hi r => .ok ((lo, hi), r)
def rdV (l : Rws) : Except Int (Nat × Rws) := andE (rdU 18446744073709551615 l) fun v r => if 2147483647 < v then .error 41 else .ok (v, r)
def rdCh (l : Rws) : Except Int (List AV × Rws) := andE (rdV l) fun a r => andE (rdV r) fun b r => andE (rdSp r) fun s r => andE (rdSp r) fun t r => .ok ([I (a : Int), I (b : Int), I s.1, I s.2, I t.1, I t.2], r)
theorem span_ok (a0 a1 a2 : Int) (b : Bool) (l : Rws) (p : Nat) (rest : Rws) (hp : At l p rest) (hl : byt l) (hn : l.length ≤ 140737488355328) {R : ((Int × Int × Int × Int) ⊕ (Int × Int × Int × Int × Int × Int)) → Prop}
    (he : ∀ e x y z, e ≠ 0 → rdSp rest = .error e → R (.inr (e, a1, a2, x, y, z))) (hk : ∀ s rest' (p' : Nat), rdSp rest = .ok (s, rest') → At l p' rest' → R (.inl (s.1, s.2, 0, (p' : Int)))) : (g___seal_decoder__span_p a0 a1 a2 0 b l (p : Int)).run R := by
  unfold g___seal_decoder__span_p g___seal_decoder__s_p
  refine W.bindI (W.bindI (S_ok b l p rest hp hl hn (fun e v h => ?_) (fun v r1 p1 h h1 => ?_)))
  · have hne := rdS_err h
    exact W.bindI (sure_ok _ _ _ _ _ _ _ (fun h0 => absurd h0 hne) (fun _ => W.retI (W.retI (he e _ _ _ hne (by unfold rdSp andE; rw [h])))))
  · refine W.bindI (sure_ok _ _ _ _ _ _ _ (fun _ => ?_) (fun h0 => absurd rfl h0))
    refine W.retI (W.bindI (W.bindI (S_ok b l p1 r1 h1 hl hn (fun e v' h' => ?_) (fun v' r2 p2 h' h2 => ?_))))
    · have hne := rdS_err h'
      exact W.bindI (sure_ok _ _ _ _ _ _ _ (fun h0 => absurd h0 hne) (fun _ => W.retI (W.retI (he e _ _ _ hne (by unfold rdSp andE; rw [h]; dsimp only; rw [h'])))))
    · refine W.bindI (sure_ok _ _ _ _ _ _ _ (fun _ => ?_) (fun h0 => absurd rfl h0))
      exact W.retI (W.retI (hk (v, v') r2 p2 (by unfold rdSp andE; rw [h]; dsimp only; rw [h']) h2))
theorem u_ok (a0 a1 a2 : Int) (b : Bool) (l : Rws) (p : Nat) (rest : Rws) (hp : At l p rest) (hl : byt l) (hn : l.length ≤ 140737488355328) {R : ((Int × Int × Int) ⊕ (Int × Int × Int × Int × Int × Int)) → Prop}
    (he : ∀ e x y z, e ≠ 0 → rdV rest = .error e → R (.inr (e, a1, a2, x, y, z))) (hk : ∀ (v : Nat) rest' (p' : Nat), rdV rest = .ok (v, rest') → At l p' rest' → R (.inl ((v : Int), 0, (p' : Int)))) : (g___seal_decoder__u_p a0 a1 a2 0 b l (p : Int)).run R := by
  unfold g___seal_decoder__u_p
  have hr : byt rest := hp.eq ▸ byt_drop hl p
  refine W.bindI (U_ok b l p rest hp hl hn (fun e h => ?_) (fun v r1 p1 h h1 => ?_))
  · have hne := rdU_err h
    exact W.bindI (sure_ok _ _ _ _ _ _ _ (fun h0 => absurd h0 hne) (fun _ => W.retI (he e _ _ _ hne (by unfold rdV andE; rw [h]))))
  · refine W.bindI (sure_ok _ _ _ _ _ _ _ (fun _ => ?_) (fun h0 => absurd rfl h0))
    refine W.iteC (fun e => ?_) (fun e => ?_)
    · have e : 2147483647 < v := by have := of_decide_eq_true e; omega
      unfold g___seal_decoder__giveUp_p_2
      exact W.bindI (W.retI (W.retI (he 41 _ _ _ (by decide) (by unfold rdV andE; rw [h]; exact if_pos e))))
    · have e : ¬ 2147483647 < v := by have := of_decide_eq_false e; omega
      refine W.retI ?_
      rw [wrap64_in (x := (v : Int)) (by omega) (by omega)]
      exact hk v r1 p1 (by unfold rdV andE; rw [h]; exact if_neg e) h1
theorem count_ok' (max : Nat) (a1 a2 a3 : Int) (b : Bool) (l : Rws) (p : Nat) (rest : Rws) (hp : At l p rest) (hl : byt l) (hn : l.length ≤ 140737488355328) (hmax : max ≤ 9223372036854775807) {R : ((Int × Int × Int) ⊕ (Int × Int × Int × Int × Int × Int)) → Prop}
    (he : ∀ e x y z, e ≠ 0 → rdU max rest = .error e → R (.inr (e, a2, a3, x, y, z))) (hk : ∀ (v : Nat) rest' (p' : Nat), rdU max rest = .ok (v, rest') → At l p' rest' → R (.inl ((v : Int), 0, (p' : Int)))) : (g___seal_decoder__count_p (max : Int) a1 a2 a3 0 b l (p : Int)).run R := by
  unfold g___seal_decoder__count_p
  refine W.bindI (N_ok max b l p rest hp hl hn hmax (fun e h => ?_) (fun v r1 p1 h h1 => ?_))
  · have hne := rdU_err h
    exact W.bindI (sure_ok _ _ _ _ _ _ _ (fun h0 => absurd h0 hne) (fun _ => W.retI (he e _ _ _ hne h)))
  · exact W.bindI (sure_ok _ _ _ _ _ _ _ (fun _ => W.retI (hk v r1 p1 h h1)) (fun h0 => absurd rfl h0))
/-- n things one behind another; at a fault: how many had been read. -/
def rdMany {α ε : Type} (f : Rws → Except ε (α × Rws)) : Nat → Rws → Except (ε × Nat) (List α × Rws)
  | 0, l => .ok ([], l)
  | n + 1, l => match f l with
    | .error e => .error (e, 0)
    | .ok (a, r) => match rdMany f n r with
      | .error (e, k) => .error (e, k + 1)
      | .ok (xs, r) => .ok (a :: xs, r)
theorem rdMany_succ {α ε : Type} (f : Rws → Except ε (α × Rws)) (n : Nat) (l : Rws) : rdMany f (n + 1) l = match f l with
    | .error e => .error (e, 0)
    | .ok (a, r) => match rdMany f n r with
      | .error (e, k) => .error (e, k + 1)
      | .ok (xs, r) => .ok (a :: xs, r) := rfl
def rdList (l : Rws) : Except (Int × Nat) (Rws × Rws) := match rdU 1024 l with
  | .error e => .error (e, 0)
  | .ok (n, r) => match rdMany rdCh n r with
    | .error (e, k) => .error (e, k + 1)
    | .ok x => .ok x
theorem At.byt {l : Rws} {p : Nat} {rest : Rws} (h : At l p rest) (hl : byt l) : byt rest := h.eq ▸ byt_drop hl p
theorem list_ok (a1 : Int) (b : Bool) (l : Rws) (p : Nat) (rest : Rws) (hp : At l p rest) (hl : byt l) (hn : l.length ≤ 140737488355328) {R : ((Int × Int × Int × Bool × Rws) ⊕ (Int × Int × Int × Int × Int × Int × Int)) → Prop}
    (he : ∀ e (k : Nat) x y z w, e ≠ 0 → rdList rest = .error (e, k) → R (.inr (e, a1, (k : Int), x, y, z, w))) (hk : ∀ cs rest' (p' : Nat) c, rdList rest = .ok (cs, rest') → At l p' rest' → R (.inl (0, 0, (p' : Int), c, cs))) : (g___seal_decoder__list_p 0 a1 0 0 b l (p : Int)).run R := by
  unfold g___seal_decoder__list_p
  refine W.bindI (count_ok' 1024 0 a1 0 b l p rest hp hl hn (by omega) (fun e x y z hne h => W.retI (he e 0 _ _ _ _ hne (by unfold rdList; rw [h]))) (fun v r1 p1 h h1 => ?_))
  have hv := (rdU_ok (hp.byt hl) h).1
  refine W.bindI (W.loop_for v (fun i s => ∃ (p' : Nat) (r : Rws) (a : Int) (c : Bool) (acc : Rws), s = ((i : Int), a, 0, (p' : Int), c, acc) ∧ At l p' r ∧ acc.length = i ∧
    rdMany rdCh v r1 = (match rdMany rdCh (v - i) r with | .error (e, k) => .error (e, k + i) | .ok (xs, r) => .ok (acc ++ xs, r))) ?_ ?_ ⟨p1, r1, 0, true, [], rfl, h1, rfl, ?_⟩)
  · rintro i s hi ⟨p', r, a, c, acc, rfl, h2, hlen, hm⟩
    rw [show v - i = (v - (i + 1)) + 1 by omega] at hm
    have wi := wrap_succ (show i ≤ 140737488355328 by omega)
    have err : ∀ e, rdCh r = .error e → rdList rest = .error (e, i + 1) := fun e h3 => by
      unfold rdList; rw [h]; dsimp only; rw [hm, rdMany_succ, h3]; simp
    refine W.iteT (by simpa using hi) ?_
    simp only [wi]
    refine W.bindI (u_ok _ _ _ b l p' r h2 hl hn (fun e x y z hne h3 => W.retI (W.retI (he e (i + 1) _ _ _ _ hne (err e (by unfold rdCh andE; rw [h3]))))) (fun va ra pa h3 ha => ?_))
    refine W.bindI (u_ok _ _ _ b l pa ra ha hl hn (fun e x y z hne h4 => W.retI (W.retI (he e (i + 1) _ _ _ _ hne (err e (by unfold rdCh andE; rw [h3]; dsimp only; rw [h4]))))) (fun vb rb pb h4 hb => ?_))
    refine W.bindI (span_ok _ _ _ b l pb rb hb hl hn (fun e x y z hne h5 => W.retI (W.retI (he e (i + 1) _ _ _ _ hne (err e (by unfold rdCh andE; rw [h3]; dsimp only; rw [h4]; dsimp only; rw [h5]))))) (fun vc rc pc h5 hc => ?_))
    refine W.bindI (span_ok _ _ _ b l pc rc hc hl hn (fun e x y z hne h6 => W.retI (W.retI (he e (i + 1) _ _ _ _ hne (err e (by unfold rdCh andE; rw [h3]; dsimp only; rw [h4]; dsimp only; rw [h5]; dsimp only; rw [h6]))))) (fun vd rd pd h6 hd => ?_))
    have hch : rdCh r = .ok ([I (va : Int), I (vb : Int), I vc.1, I vc.2, I vd.1, I vd.2], rd) := by unfold rdCh andE; rw [h3]; dsimp only; rw [h4]; dsimp only; rw [h5]; dsimp only; rw [h6]
    refine W.needI (by simp only [hlen]; omega) (W.retI ⟨pd, rd, _, _, _, rfl, hd, by simp [hlen], ?_⟩)
    rw [hm, rdMany_succ, hch]
    dsimp only
    cases rdMany rdCh (v - (i + 1)) rd with
    | error x => obtain ⟨e, k⟩ := x; dsimp only; rw [show k + 1 + i = k + (i + 1) by omega]
    | ok x => obtain ⟨xs, r'⟩ := x; simp
  · rintro s ⟨p', r, a, c, acc, rfl, h2, hlen, hm⟩
    refine W.iteF (by simp) (W.retI (W.retI (W.retI ?_)))
    rw [Nat.sub_self] at hm
    refine hk acc r p' c ?_ h2
    unfold rdList; rw [h]; dsimp only; rw [hm]; simp [rdMany]
  · rw [Nat.sub_zero]
    cases rdMany rdCh v r1 with
    | error x => rfl
    | ok x => rfl
end Go.Proofs.Ytfekobhcekcniaa.VX

set_option linter.unusedVariables false
set_option linter.unusedSimpArgs false
namespace Go.Proofs.Ytfekobhcekcniaa.VX
def magic (l : Rws) : Bool := ri l 0 0 == 83 && (ri l 1 0 == 87 && (ri l 2 0 == 67 && ri l 3 0 == 49))
theorem u8_eq {x : Int} {n : Nat} (hx : 0 ≤ x ∧ x ≤ 255) (hn : n < 256) : (x.toNat.toUInt8 == n.toUInt8) = (x == (n : Int)) := by
  obtain ⟨m, rfl⟩ := Int.eq_ofNat_of_zero_le hx.1
  rw [Bool.eq_iff_iff, beq_iff_eq, beq_iff_eq]
  constructor
  · intro h
    have h2 := congrArg UInt8.toNat h
    simp at h2
    omega
  · intro h
    have : m = n := by omega
    subst this
    rfl
theorem magic_eq {l : Rws} (hb : byt l) (hl : 4 ≤ l.length) : ((bytesR (List.take 4 (List.drop 0 l))).toList == (bs [83, 87, 67, 49]).toList) = magic l := by
  match l, hl with
  | r0 :: r1 :: r2 :: r3 :: rest, _ =>
    have e1 : (bytesR (List.take 4 (List.drop 0 (r0 :: r1 :: r2 :: r3 :: rest)))).toList = [(cI r0 0).toNat.toUInt8, (cI r1 0).toNat.toUInt8, (cI r2 0).toNat.toUInt8, (cI r3 0).toNat.toUInt8] := by
      unfold bytesR
      rw [ByteArray.toList_mk]
      rfl
    have e2 : (bs [83, 87, 67, 49]).toList = [(83 : Nat).toUInt8, (87 : Nat).toUInt8, (67 : Nat).toUInt8, (49 : Nat).toUInt8] := by
      unfold bs
      rw [ByteArray.toList_mk]
      rfl
    have h0 := hb r0 (by simp)
    have h1 := hb r1 (by simp)
    have h2 := hb r2 (by simp)
    have h3 := hb r3 (by simp)
    rw [e1, e2]
    show (((cI r0 0).toNat.toUInt8 == (83 : Nat).toUInt8) && (((cI r1 0).toNat.toUInt8 == (87 : Nat).toUInt8) && (((cI r2 0).toNat.toUInt8 == (67 : Nat).toUInt8) && (((cI r3 0).toNat.toUInt8 == (49 : Nat).toUInt8) && true)))) = _
    rw [u8_eq h0 (by omega), u8_eq h1 (by omega), u8_eq h2 (by omega), u8_eq h3 (by omega), Bool.and_true]
    rfl
def rdSpR (l : Rws) : Except Int (List AV × Rws) := andE (rdSp l) fun s r => .ok ([I s.1, I s.2], r)
def body (l : Rws) : Except (Int × Nat × Nat) (Rws × List Rws) := match rdU 65 l with
  | .error e => .error (e, 0, 0)
  | .ok (n, r) => match rdMany rdSpR n r with
    | .error (e, _) => .error (e, 0, 0)
    | .ok (sp, r) => match rdU 64 r with
      | .error e => .error (e, 0, 0)
      | .ok (m, r) => match rdMany rdList m r with
        | .error ((e, k), i) => .error (e, i + 1, k)
        | .ok (pl, r) => if r.length = 0 then .ok (sp, pl) else .error (43, 0, 0)
def dec (l : Rws) : Except (Int × Nat × Nat) (Rws × List Rws) := if l.length < 4 then .error (40, 0, 0) else if magic l = true then body (l.drop 4) else .error (41, 0, 0)
theorem rdList_err {l : Rws} {e : Int} {k : Nat} (h : rdList l = .error (e, k)) : True := trivial
theorem g_seal_Decode_ok (b : Bool) (l : Rws) (hl : byt l) (hn : l.length ≤ 140737488355328) (hb : b = true → l = []) {R : Int × Int × Int × Bool × Rws × Bool × Rws → Prop}
    (he : ∀ e (i k : Nat), e ≠ 0 → dec l = .error (e, i, k) → R (e, (i : Int), (k : Int), true, [], true, [])) (hk : ∀ c sp c' pl pls, dec l = .ok (sp, pls) → plans pl = pls → R (0, 0, 0, c, sp, c', pl)) : (g_seal_Decode b l).run R := by
  unfold g_seal_Decode g___seal_decoder__giveUp_p
  refine W.iteC (fun e => ?_) (fun e => ?_)
  · have e : l.length < 4 := by have := of_decide_eq_true e; omega
    exact W.bindI (W.retI (W.retI (he 40 0 0 (by decide) (by unfold dec; rw [if_pos e]))))
  · have e : ¬ l.length < 4 := by have := of_decide_eq_false e; omega
    refine W.needI (by omega) ?_
    rw [magic_eq hl (by omega)]
    refine W.iteC (fun em => ?_) (fun em => ?_)
    · have em : ¬ magic l = true := by simpa using em
      exact W.bindI (W.retI (W.retI (he 41 0 0 (by decide) (by unfold dec; rw [if_neg e, if_neg em]))))
    · have em : magic l = true := by simpa using em
      have hd : dec l = body (l.drop 4) := by unfold dec; rw [if_neg e, if_pos em]
      rw [hd] at he hk
      have hbf : b = false := by
        cases b with
        | false => rfl
        | true => rw [hb rfl] at e; simp at e
      refine W.needI (by omega) ?_
      have hrest := rest_eq l 4 (by omega)
      rw [show ((4 : Nat) : Int) = 4 from rfl] at hrest
      rw [show List.drop 4 l = List.drop (4 : Int).toNat l from rfl, hrest]
      have hby := byt_drop hl 4
      have hln : (l.drop 4).length ≤ 140737488355328 := by simp; omega
      generalize l.drop 4 = m at he hk hby hln
      unfold g_wire_New g_slices_Clone___byte_byte_
      refine W.bindI (W.bindI (W.iteF hbf (W.needI (by omega) (W.retI (W.retI ?_)))))
      refine W.bindI (count_ok' 65 0 0 0 false m 0 m ⟨by omega, rfl⟩ hby hln (by omega) (fun e x y z hne h => W.retI (he e 0 0 hne (by unfold body; rw [h]))) (fun v r1 p1 h h1 => ?_))
      have hv := (rdU_ok hby h).1
      refine W.bindI (W.loop_for v (fun i s => ∃ (p' : Nat) (r : Rws) (c : Bool) (acc : Rws), s = ((i : Int), c, acc, 0, (p' : Int)) ∧ At m p' r ∧ acc.length = i ∧
        rdMany rdSpR v r1 = (match rdMany rdSpR (v - i) r with | .error (e, k) => .error (e, k + i) | .ok (xs, r) => .ok (acc ++ xs, r))) ?_ ?_ ⟨p1, r1, true, [], rfl, h1, rfl, ?_⟩)
      · rintro i s hi ⟨p', r, c, acc, rfl, h2, hlen, hm⟩
        rw [show v - i = (v - (i + 1)) + 1 by omega] at hm
        have wi := wrap_succ (show i ≤ 140737488355328 by omega)
        refine W.iteT (by simpa using hi) ?_
        refine W.bindI (span_ok _ _ _ false m p' r h2 hby hln (fun e x y z hne h3 => W.retI (W.retI (W.retI (he e 0 0 hne ?_)))) (fun s ra pa h3 ha => ?_))
        · unfold body; rw [h]; dsimp only; rw [hm, rdMany_succ]
          have : rdSpR r = .error e := by unfold rdSpR andE; rw [h3]
          rw [this]
        · have h4 : rdSpR r = .ok ([I s.1, I s.2], ra) := by unfold rdSpR andE; rw [h3]
          refine W.needI (by simp only [hlen]; omega) (W.retI ⟨pa, ra, _, _, by simp only [wi]; rfl, ha, by simp [hlen], ?_⟩)
          rw [hm, rdMany_succ, h4]
          dsimp only
          cases rdMany rdSpR (v - (i + 1)) ra with
          | error x => obtain ⟨e, k⟩ := x; dsimp only; rw [show k + 1 + i = k + (i + 1) by omega]
          | ok x => obtain ⟨xs, r'⟩ := x; simp
      · rintro s ⟨p', r, c, acc, rfl, h2, hlen, hm⟩
        refine W.iteF (by simp) (W.retI (W.retI ?_))
        rw [Nat.sub_self] at hm
        have hm : rdMany rdSpR v r1 = .ok (acc, r) := by rw [hm]; simp [rdMany]
        refine W.bindI (count_ok' 64 0 0 0 false m p' r h2 hby hln (by omega) (fun e x y z hne h3 => W.retI (W.retI (he e 0 0 hne (by unfold body; rw [h]; dsimp only; rw [hm]; dsimp only; rw [h3])))) (fun v2 r2 p2 h3 hr2 => ?_))
        have hv2 := (rdU_ok (h2.byt hby) h3).1
        refine W.bindI (W.loop_for v2 (fun i s => ∃ (p' : Nat) (r : Rws) (x : Int) (c : Bool) (acc2 : Rws) (pls : List Rws), s = ((i : Int), x, 0, c, acc2, 0, (p' : Int)) ∧ At m p' r ∧ acc2.length = i ∧ plans acc2 = pls ∧
          rdMany rdList v2 r2 = (match rdMany rdList (v2 - i) r with | .error (e, k) => .error (e, k + i) | .ok (xs, r) => .ok (pls ++ xs, r))) ?_ ?_ ⟨p2, r2, 0, true, [], [], rfl, hr2, rfl, rfl, ?_⟩)
        · rintro i s hi ⟨p', r, x, c2, acc2, pls, rfl, h4, hlen2, hpls, hm2⟩
          rw [show v2 - i = (v2 - (i + 1)) + 1 by omega] at hm2
          have wi := wrap_succ (show i ≤ 140737488355328 by omega)
          refine W.iteT (by simpa using hi) ?_
          simp only [wi]
          refine W.bindI (list_ok _ false m p' r h4 hby hln (fun e k x y z w hne h5 => W.retI (W.retI (W.retI (he e (i + 1) k hne ?_)))) (fun cs ra pa c3 h5 ha => ?_))
          · unfold body; rw [h]; dsimp only; rw [hm]; dsimp only; rw [h3]; dsimp only; rw [hm2, rdMany_succ, h5]; simp
          · refine W.needI (by simp only [hlen2]; omega) (W.retI ⟨pa, ra, _, _, _, pls ++ [cs], rfl, ha, by simp [hlen2], ?_, ?_⟩)
            · rw [← hpls]; simp [plans, cR, AV.toRows]
            · rw [hm2, rdMany_succ, h5]
              dsimp only
              cases rdMany rdList (v2 - (i + 1)) ra with
              | error x => obtain ⟨e, k⟩ := x; dsimp only; rw [show k + 1 + i = k + (i + 1) by omega]
              | ok x => obtain ⟨xs, r'⟩ := x; simp
        · rintro s ⟨p', r, x, c2, acc2, pls, rfl, h4, hlen2, hpls, hm2⟩
          refine W.iteF (by simp) (W.retI (W.retI ?_))
          rw [Nat.sub_self] at hm2
          have hm2 : rdMany rdList v2 r2 = .ok (pls, r) := by rw [hm2]; simp [rdMany]
          have hbd : body m = if r.length = 0 then .ok (acc, pls) else .error (43, 0, 0) := by
            unfold body; rw [h]; dsimp only; rw [hm]; dsimp only; rw [h3]; dsimp only; rw [hm2]
          have hlr : r.length = m.length - p' := by rw [← h4.eq]; simp
          have hle := h4.le
          unfold g___wire_Reader__End_p g___wire_Reader__Err_p g___wire_Reader__Left_p g___wire_cursor__Left_p
          refine W.bindI (W.bindI (W.retI (W.bindI (W.iteF (by simp) (W.bindI (W.bindI (W.retI (W.retI (W.retI ?_)))))))))
          rw [wrap64_in (x := (m.length : Int) - (p' : Int)) (by omega) (by omega)]
          refine W.iteC (fun e9 => ?_) (fun e9 => ?_)
          · refine W.retI (W.iteF (by simp) (W.retI (W.retI ?_)))
            refine hk _ _ _ _ _ ?_ hpls
            rw [hbd, if_pos (by simp at e9; omega)]
          · unfold g___seal_decoder__giveUp_p_2
            refine W.retI (W.iteT (by decide) (W.bindI (W.retI (W.retI (W.retI (he 43 0 0 (by decide) ?_))))))
            rw [hbd, if_neg (by simp at e9; omega)]
        · rw [Nat.sub_zero]
          cases rdMany rdList v2 r2 with
          | error x => rfl
          | ok x => rfl
      · rw [Nat.sub_zero]
        cases rdMany rdSpR v r1 with
        | error x => rfl
        | ok x => rfl
end Go.Proofs.Ytfekobhcekcniaa.VX

set_option linter.unusedVariables false
set_option linter.unusedSimpArgs false
namespace Go.Proofs.Ytfekobhcekcniaa.VX
theorem pow7 (i : Nat) : 2 ^ (7 * (i + 1)) = 128 * 2 ^ (7 * i) := by rw [show 7 * (i + 1) = 7 * i + 7 by omega, Nat.pow_add]; omega
theorem split128 (n P : Nat) : n % 128 * P + n / 128 * (128 * P) = n * P := by
  have h := Nat.div_add_mod n 128
  calc n % 128 * P + n / 128 * (128 * P) = n % 128 * P + (128 * (n / 128)) * P := by rw [← Nat.mul_assoc, Nat.mul_comm (n / 128) 128]
    _ = (n % 128 + 128 * (n / 128)) * P := by rw [Nat.add_mul]
    _ = n * P := by rw [Nat.add_comm, h]
theorem one_of9 {i n : Nat} (h9 : i = 9) (h : n * 2 ^ (7 * i) < 18446744073709551616) : n ≤ 1 := by
  subst h9
  simp at h
  omega
theorem gvGo_fwd : ∀ (n i acc : Nat) (t : Rws), i ≤ 9 → n * 2 ^ (7 * i) < 18446744073709551616 → (0 < i → n ≠ 0) → gvGo (rowsB (uB n) ++ t) i acc = (acc + n * 2 ^ (7 * i), i + (uB n).length, 0) := by
  intro n
  induction n using Nat.strongRecOn with
  | _ n ih =>
    intro i acc t hi hn h0
    by_cases hs : n < 128
    · rw [uB_small hs]
      show gvGo ([I (n : Int)] :: t) i acc = _
      have e : (cI [I (n : Int)] 0).toNat = n := rfl
      rw [gvGo_cons, e, if_neg (fun h => by have := one_of9 h.1 hn; omega), if_pos hs, if_neg (fun h => h0 h.1 h.2)]
      rfl
    · have h9 : i ≤ 8 := by
        by_cases h : i = 9
        · have := one_of9 h hn; omega
        · omega
      rw [uB_big (by omega)]
      show gvGo ([I ((n % 128 + 128 : Nat) : Int)] :: (rowsB (uB (n / 128)) ++ t)) i acc = _
      have e : (cI [I ((n % 128 + 128 : Nat) : Int)] 0).toNat = n % 128 + 128 := rfl
      have hsp := split128 n (2 ^ (7 * i))
      have hlt : n / 128 * 2 ^ (7 * (i + 1)) < 18446744073709551616 := by rw [pow7]; omega
      rw [gvGo_cons, e, if_neg (by omega), if_neg (by omega), ih (n / 128) (by omega) (i + 1) _ t (by omega) hlt (by omega), pow7]
      refine Prod.ext ?_ (Prod.ext ?_ rfl)
      · show acc + (n % 128 + 128 - 128) * 2 ^ (7 * i) + n / 128 * (128 * 2 ^ (7 * i)) = acc + n * 2 ^ (7 * i)
        rw [Nat.add_sub_cancel, Nat.add_assoc, hsp]
      · simp; omega
theorem gvGo_cut : ∀ (n i acc : Nat) (s t : Rws), i ≤ 9 → n * 2 ^ (7 * i) < 18446744073709551616 → t ≠ [] → s ++ t = rowsB (uB n) → gvGo s i acc = (0, 0, 40) := by
  intro n
  induction n using Nat.strongRecOn with
  | _ n ih =>
    intro i acc s t hi hn ht h
    cases s with
    | nil => rfl
    | cons r s =>
      by_cases hs : n < 128
      · rw [uB_small hs] at h
        have h : r :: (s ++ t) = [[I (n : Int)]] := h
        injection h with _ h
        have := (List.append_eq_nil_iff.1 h).2
        exact absurd this ht
      · have h9 : i ≤ 8 := by
          by_cases h : i = 9
          · have := one_of9 h hn; omega
          · omega
        rw [uB_big (by omega)] at h
        have h : r :: (s ++ t) = [I ((n % 128 + 128 : Nat) : Int)] :: rowsB (uB (n / 128)) := h
        injection h with h1 h2
        subst h1
        have e : (cI [I ((n % 128 + 128 : Nat) : Int)] 0).toNat = n % 128 + 128 := rfl
        have hsp := split128 n (2 ^ (7 * i))
        have hlt : n / 128 * 2 ^ (7 * (i + 1)) < 18446744073709551616 := by rw [pow7]; omega
        rw [gvGo_cons, e, if_neg (by omega), if_neg (by omega)]
        exact ih (n / 128) (by omega) (i + 1) _ s t (by omega) hlt ht h2
/-- What is laid down as e is read as a; cut short it is refused. -/
structure Cd {α ε : Type} (f : Rws → Except ε (α × Rws)) (e : Rws) (a : α) (bad : ε → Prop) : Prop where
  fwd : ∀ t, f (e ++ t) = .ok (a, t)
  cut : ∀ s t, t ≠ [] → s ++ t = e → ∃ x, f s = .error x ∧ bad x
theorem rdU_cd {max n : Nat} (hm : n ≤ max) (hn : n < 18446744073709551616) : Cd (rdU max) (rowsB (uB n)) n (fun e => e = 40) where
  fwd := fun t => by
    have h := gvGo_fwd n 0 0 t (by omega) (by simpa using hn) (by omega)
    have h : gv (rowsB (uB n) ++ t) = (n, (uB n).length, 0) := by
      unfold gv; rw [h]; simp
    unfold rdU
    rw [h, if_neg (by simp), if_neg (by simpa using hm)]
    rw [show (n, (uB n).length, (0 : Int)).2.1 = (rowsB (uB n)).length by simp [rowsB_len], List.drop_left]
  cut := fun s t ht h => by
    have h2 : gv s = (0, 0, 40) := gvGo_cut n 0 0 s t (by omega) (by simpa using hn) ht h
    exact ⟨40, by unfold rdU; rw [h2]; rfl, rfl⟩
theorem app_cut {s t e1 e2 : Rws} (ht : t ≠ []) (h : s ++ t = e1 ++ e2) : (∃ t', t' ≠ [] ∧ s ++ t' = e1) ∨ ∃ s2, s = e1 ++ s2 ∧ s2 ++ t = e2 := by
  rcases List.append_eq_append_iff.1 h with ⟨x, h1, h2⟩ | ⟨x, h1, h2⟩
  · by_cases hx : x = []
    · subst hx
      exact .inr ⟨[], by simpa using h1.symm, by simpa using h2⟩
    · exact .inl ⟨x, hx, h1.symm⟩
  · exact .inr ⟨x, h1, h2.symm⟩
theorem andE_cd {α β : Type} {f : Rws → Except Int (α × Rws)} {g : α → Rws → Except Int (β × Rws)} {e1 e2 : Rws} {a : α} {b : β} {bad : Int → Prop} (h1 : Cd f e1 a bad) (h2 : Cd (g a) e2 b bad) : Cd (fun l => andE (f l) g) (e1 ++ e2) b bad where
  fwd := fun t => by
    show andE (f (e1 ++ e2 ++ t)) g = _
    rw [List.append_assoc, h1.fwd]
    exact h2.fwd t
  cut := fun s t ht h => by
    rcases app_cut ht h with ⟨t', h3, h4⟩ | ⟨s2, rfl, h3⟩
    · obtain ⟨x, h5, h6⟩ := h1.cut s t' h3 h4
      exact ⟨x, by show andE (f s) g = _; rw [h5]; rfl, h6⟩
    · obtain ⟨x, h5, h6⟩ := h2.cut s2 t ht h3
      exact ⟨x, by show andE (f (e1 ++ s2)) g = _; rw [h1.fwd]; exact h5, h6⟩
theorem ret_cd {α : Type} (a : α) (bad : Int → Prop) : Cd (fun r => (.ok (a, r) : Except Int (α × Rws))) [] a bad where
  fwd := fun t => rfl
  cut := fun s t ht h => absurd (List.append_eq_nil_iff.1 h).2 ht
theorem unz_zz {x : Int} (h : in64 x) : unz (zz x) = x := by
  unfold unz zz
  split <;> split <;> omega
theorem rdS_cd {x : Int} (h : in64 x) : Cd rdS (rowsB (uB (zz x))) x (fun e => e = 40) where
  fwd := fun t => by
    have hz := zz_lt h.1 h.2
    unfold rdS
    rw [(rdU_cd (max := 18446744073709551615) (n := zz x) (by omega) hz).fwd t]
    show Except.ok (unz (zz x), t) = _
    rw [unz_zz h]
  cut := fun s t ht h' => by
    have hz := zz_lt h.1 h.2
    obtain ⟨e, h1, h2⟩ := (rdU_cd (max := 18446744073709551615) (n := zz x) (by omega) hz).cut s t ht h'
    exact ⟨e, by unfold rdS; rw [h1], h2⟩
theorem Cd.cast {α ε : Type} {f : Rws → Except ε (α × Rws)} {e e' : Rws} {a a' : α} {bad : ε → Prop} (h : Cd f e a bad) (he : e = e') (ha : a = a') : Cd f e' a' bad := by subst he ha; exact h
theorem rdSp_cd {r : List AV} (h0 : in64 (cI r 0)) (h1 : in64 (cI r 1)) : Cd rdSp (rowsB (spB r)) (cI r 0, cI r 1) (fun e => e = 40) :=
  (andE_cd (g := fun lo r => andE (rdS r) fun hi r => .ok ((lo, hi), r)) (rdS_cd h0) (andE_cd (g := fun hi q => .ok ((cI r 0, hi), q)) (rdS_cd h1) (ret_cd _ _))).cast (by simp [spB, rowsB_app]) rfl
end Go.Proofs.Ytfekobhcekcniaa.VX

set_option linter.unusedVariables false
set_option linter.unusedSimpArgs false
namespace Go.Proofs.Ytfekobhcekcniaa.VX
theorem rdV_cd {n : Nat} (h : n ≤ 2147483647) : Cd rdV (rowsB (uB n)) n (fun e => e = 40) :=
  (andE_cd (g := fun v q => if 2147483647 < v then .error 41 else .ok (v, q)) (rdU_cd (max := 18446744073709551615) (by omega) (by omega)) (b := n) (e2 := []) ⟨fun t => if_neg (by omega), fun s t ht h => absurd (List.append_eq_nil_iff.1 h).2 ht⟩).cast (by simp) rfl
/-- A channel as it is read. -/
def chV (r : List AV) : List AV := [I (cI r 0), I (cI r 1), I (cI r 2), I (cI r 3), I (cI r 4), I (cI r 5)]
theorem uI_nat {x : Int} (h : 0 ≤ x) (h' : x ≤ 18446744073709551615) : uI x = uB x.toNat := by unfold uI; rw [wrapu64_in h h']
theorem rdCh_cd {r : List AV} (hb : badCh r = false) (hn : ∀ j, in64 (cI r j)) : Cd rdCh (rowsB (chB r)) (chV r) (fun e => e = 40) := by
  have hk : 0 ≤ cI r 0 ∧ cI r 0 ≤ 2147483647 ∧ 0 ≤ cI r 1 ∧ cI r 1 ≤ 2147483647 := by
    unfold badCh at hb
    simpa using hb
  have hs : Cd rdSp (rowsB (uB (zz (cI r 2)) ++ uB (zz (cI r 3)))) (cI r 2, cI r 3) (fun e => e = 40) :=
    (rdSp_cd (r := [I (cI r 2), I (cI r 3)]) (hn 2) (hn 3))
  have ht : Cd rdSp (rowsB (uB (zz (cI r 4)) ++ uB (zz (cI r 5)))) (cI r 4, cI r 5) (fun e => e = 40) :=
    (rdSp_cd (r := [I (cI r 4), I (cI r 5)]) (hn 4) (hn 5))
  have h1 := rdV_cd (n := (cI r 0).toNat) (by omega)
  have h2 := rdV_cd (n := (cI r 1).toNat) (by omega)
  have e0 : (((cI r 0).toNat : Nat) : Int) = cI r 0 := by omega
  have e1 : (((cI r 1).toNat : Nat) : Int) = cI r 1 := by omega
  refine (andE_cd (g := fun (a : Nat) q => andE (rdV q) fun (b : Nat) q => andE (rdSp q) fun s q => andE (rdSp q) fun t q => .ok ([I (a : Int), I (b : Int), I s.1, I s.2, I t.1, I t.2], q)) h1
    (andE_cd (g := fun (b : Nat) q => andE (rdSp q) fun s q => andE (rdSp q) fun t q => .ok ([I (((cI r 0).toNat : Nat) : Int), I (b : Int), I s.1, I s.2, I t.1, I t.2], q)) h2
      (andE_cd (g := fun s q => andE (rdSp q) fun t q => .ok ([I (((cI r 0).toNat : Nat) : Int), I (((cI r 1).toNat : Nat) : Int), I s.1, I s.2, I t.1, I t.2], q)) hs
        (andE_cd (g := fun t q => .ok ([I (((cI r 0).toNat : Nat) : Int), I (((cI r 1).toNat : Nat) : Int), I (cI r 2), I (cI r 3), I t.1, I t.2], q)) ht (ret_cd _ _))))).cast ?_ ?_
  · simp only [chB, rowsB_app, uI_nat hk.1 (by omega), uI_nat hk.2.2.1 (by omega), List.append_assoc, List.append_nil]
  · simp only [chV, e0, e1]
theorem rdMany_cd {X α ε : Type} {f : Rws → Except ε (α × Rws)} {enc : X → List Nat} {val : X → α} {bad : ε → Prop} : ∀ {xs : List X}, (∀ x ∈ xs, Cd f (rowsB (enc x)) (val x) bad) → Cd (rdMany f xs.length) (rowsB (xs.flatMap enc)) (xs.map val) (fun p => bad p.1)
  | [], _ => ⟨fun t => rfl, fun s t ht h => absurd (List.append_eq_nil_iff.1 h).2 ht⟩
  | x :: xs, h => by
    have hx := h x (List.mem_cons_self ..)
    have hr := rdMany_cd (xs := xs) fun y hy => h y (List.mem_cons_of_mem _ hy)
    constructor
    · intro t
      rw [List.length_cons, rdMany_succ, List.flatMap_cons, rowsB_app, List.append_assoc, hx.fwd]
      dsimp only
      rw [hr.fwd]
      rfl
    · intro s t ht he
      rw [List.flatMap_cons, rowsB_app] at he
      rw [List.length_cons, rdMany_succ]
      rcases app_cut ht he with ⟨t', h3, h4⟩ | ⟨s2, rfl, h3⟩
      · obtain ⟨e, h5, h6⟩ := hx.cut s t' h3 h4
        exact ⟨(e, 0), by rw [h5], h6⟩
      · obtain ⟨⟨e, k⟩, h5, h6⟩ := hr.cut s2 t ht h3
        exact ⟨(e, k + 1), by rw [hx.fwd]; dsimp only; rw [h5], h6⟩
theorem uI_len' {n : Nat} (h : n ≤ 18446744073709551615) : uI (n : Int) = uB n := by rw [uI_nat (by omega) (by omega), Int.toNat_natCast]
theorem rdList_cd {r : List AV} (hl : (cR r 0).length ≤ 1024) (hb : ∀ c ∈ cR r 0, badCh c = false) (hn : num (cR r 0)) : Cd rdList (rowsB (plB r)) ((cR r 0).map chV) (fun p => p.1 = 40) := by
  have h1 := rdU_cd (max := 1024) (n := (cR r 0).length) hl (by omega)
  have h2 := rdMany_cd (xs := cR r 0) (f := rdCh) (enc := chB) (val := chV) fun c hc => rdCh_cd (hb c hc) (hn c hc)
  have he : rowsB (plB r) = rowsB (uB (cR r 0).length) ++ rowsB ((cR r 0).flatMap chB) := by
    unfold plB
    rw [uI_len' (by omega), rowsB_app]
  constructor
  · intro t
    rw [he, List.append_assoc]
    unfold rdList
    rw [h1.fwd]
    dsimp only
    rw [h2.fwd]
  · intro s t ht h
    rw [he] at h
    unfold rdList
    rcases app_cut ht h with ⟨t', h3, h4⟩ | ⟨s2, rfl, h3⟩
    · obtain ⟨e, h5, h6⟩ := h1.cut s t' h3 h4
      exact ⟨(e, 0), by rw [h5], h6⟩
    · obtain ⟨⟨e, k⟩, h5, h6⟩ := h2.cut s2 t ht h3
      exact ⟨(e, k + 1), by rw [h1.fwd]; dsimp only; rw [h5], h6⟩
def spV (r : List AV) : List AV := [I (cI r 0), I (cI r 1)]
theorem rdSpR_cd {r : List AV} (h : ∀ j, in64 (cI r j)) : Cd rdSpR (rowsB (spB r)) (spV r) (fun e => e = 40) :=
  (andE_cd (g := fun (s : Int × Int) q => .ok ([I s.1, I s.2], q)) (rdSp_cd (r := r) (h 0) (h 1)) (ret_cd _ _)).cast (by simp) rfl
/-- What stands behind the magic. -/
def bodyB (sp pl : Rws) : List Nat := uB sp.length ++ (sp.flatMap spB ++ (uB pl.length ++ pl.flatMap plB))
theorem body_ok {sp pl : Rws} (hF : Fine sp pl) (hz : (hd sp pl).1 = 0) : (∀ t, body (rowsB (bodyB sp pl) ++ t) = if t.length = 0 then .ok (sp.map spV, pl.map fun r => (cR r 0).map chV) else .error (43, 0, 0)) ∧
    ∀ s t, t ≠ [] → s ++ t = rowsB (bodyB sp pl) → ∃ i k, body s = .error (40, i, k) := by
  obtain ⟨_, hA, hB, hC⟩ := hd_ok hz
  have h1 := rdU_cd (max := 65) (n := sp.length) hA (by omega)
  have h2 := rdMany_cd (xs := sp) (f := rdSpR) (enc := spB) (val := spV) fun c hc => rdSpR_cd (hF.sp c hc)
  have h3 := rdU_cd (max := 64) (n := pl.length) hB (by omega)
  have h4 := rdMany_cd (xs := pl) (f := rdList) (enc := plB) (val := fun r => (cR r 0).map chV) fun r hr => rdList_cd (hC r hr).1 (hC r hr).2 (hF.pl r hr)
  have he : rowsB (bodyB sp pl) = rowsB (uB sp.length) ++ (rowsB (sp.flatMap spB) ++ (rowsB (uB pl.length) ++ rowsB (pl.flatMap plB))) := by
    simp only [bodyB, rowsB_app]
  constructor
  · intro t
    rw [he, List.append_assoc, List.append_assoc, List.append_assoc]
    unfold body
    rw [h1.fwd]
    dsimp only
    rw [h2.fwd]
    dsimp only
    rw [h3.fwd]
    dsimp only
    rw [h4.fwd]
  · intro s t ht h
    rw [he] at h
    unfold body
    rcases app_cut ht h with ⟨t', q1, q2⟩ | ⟨s2, rfl, k2⟩
    · obtain ⟨e, q3, rfl⟩ := h1.cut s t' q1 q2
      exact ⟨0, 0, by rw [q3]⟩
    rw [h1.fwd]
    dsimp only
    rcases app_cut ht k2 with ⟨t', q1, q2⟩ | ⟨s3, rfl, k3⟩
    · obtain ⟨⟨e, k⟩, q3, q4⟩ := h2.cut s2 t' q1 q2
      have q4 : e = 40 := q4
      subst q4
      exact ⟨0, 0, by rw [q3]⟩
    rw [h2.fwd]
    dsimp only
    rcases app_cut ht k3 with ⟨t', q1, q2⟩ | ⟨s4, rfl, k4⟩
    · obtain ⟨e, q3, rfl⟩ := h3.cut s3 t' q1 q2
      exact ⟨0, 0, by rw [q3]⟩
    rw [h3.fwd]
    dsimp only
    obtain ⟨⟨⟨e, k⟩, i⟩, q3, q4⟩ := h4.cut s4 t ht k4
    have q4 : e = 40 := q4
    subst q4
    exact ⟨i + 1, k, by rw [q3]⟩
theorem encB_body {sp pl : Rws} (hF : Fine sp pl) : rowsB (encB sp pl) = [I 83] :: [I 87] :: [I 67] :: [I 49] :: rowsB (bodyB sp pl) := by
  have hA := hF.a
  have hB := hF.b
  have e : encB sp pl = [83, 87, 67, 49] ++ bodyB sp pl := by
    unfold encB bodyB
    rw [uI_len' (by omega), uI_len' (by omega)]
    simp only [List.append_assoc]
  rw [e, rowsB_app]
  rfl
theorem magic_go (r : Rws) : magic ([I 83] :: [I 87] :: [I 67] :: [I 49] :: r) = true := rfl
theorem dec_go (r : Rws) : dec ([I 83] :: [I 87] :: [I 67] :: [I 49] :: r) = body r := by
  unfold dec
  rw [if_neg (by simp), if_pos (magic_go r)]
  rfl
theorem dec_fwd {sp pl : Rws} (hF : Fine sp pl) (hz : (hd sp pl).1 = 0) (t : Rws) : dec (rowsB (encB sp pl) ++ t) = if t.length = 0 then .ok (sp.map spV, pl.map fun r => (cR r 0).map chV) else .error (43, 0, 0) := by
  rw [encB_body hF]
  exact (dec_go _).trans ((body_ok hF hz).1 t)
theorem dec_cut {sp pl : Rws} (hF : Fine sp pl) (hz : (hd sp pl).1 = 0) {s t : Rws} (ht : t ≠ []) (h : s ++ t = rowsB (encB sp pl)) : ∃ i k, dec s = .error (40, i, k) := by
  rw [encB_body hF] at h
  match s, h with
  | [], _ => exact ⟨0, 0, rfl⟩
  | [_], _ => exact ⟨0, 0, rfl⟩
  | [_, _], _ => exact ⟨0, 0, rfl⟩
  | [_, _, _], _ => exact ⟨0, 0, rfl⟩
  | a :: b :: c :: d :: s, h =>
    injection h with h1 h
    injection h with h2 h
    injection h with h3 h
    injection h with h4 h
    subst h1 h2 h3 h4
    rw [dec_go]
    exact (body_ok hF hz).2 s t ht h
end Go.Proofs.Ytfekobhcekcniaa.VX

set_option linter.unusedVariables false
set_option linter.unusedSimpArgs false
namespace Go.Proofs.Ytfekobhcekcniaa.VX
theorem uB_lt : ∀ (n : Nat), ∀ b ∈ uB n, b < 256 := by
  intro n
  induction n using Nat.strongRecOn with
  | _ n ih =>
    intro b hb
    by_cases h : n < 128
    · rw [uB_small h] at hb
      simp at hb
      omega
    · rw [uB_big (by omega)] at hb
      rcases List.mem_cons.1 hb with rfl | hb
      · omega
      · exact ih (n / 128) (by omega) b hb
theorem uI_lt (x : Int) : ∀ b ∈ uI x, b < 256 := uB_lt _
theorem encB_lt (sp pl : Rws) : ∀ b ∈ encB sp pl, b < 256 := by
  intro b hb
  simp only [encB, List.mem_append, List.mem_flatMap] at hb
  rcases hb with ((((hb | hb) | ⟨r, _, hb⟩) | hb) | ⟨r, _, hb⟩)
  · simp at hb; omega
  · exact uI_lt _ b hb
  · simp only [spB, List.mem_append] at hb
    rcases hb with hb | hb <;> exact uB_lt _ b hb
  · exact uI_lt _ b hb
  · simp only [plB, List.mem_append, List.mem_flatMap] at hb
    rcases hb with hb | ⟨c, _, hb⟩
    · exact uI_lt _ b hb
    · simp only [chB, List.mem_append] at hb
      rcases hb with ((hb | hb) | (hb | hb)) | (hb | hb) <;> first | exact uI_lt _ b hb | exact uB_lt _ b hb
theorem byt_rows {l : List Nat} (h : ∀ b ∈ l, b < 256) : byt (rowsB l) := by
  intro r hr
  simp only [rowsB, List.mem_map] at hr
  obtain ⟨b, hb, rfl⟩ := hr
  have := h b hb
  show 0 ≤ (b : Int) ∧ (b : Int) ≤ 255
  omega
theorem byt_app {l m : Rws} (h : byt l) (h' : byt m) : byt (l ++ m) := fun r hr => by
  rcases List.mem_append.1 hr with hr | hr
  · exact h r hr
  · exact h' r hr
theorem g_law16_SealCuts_ok (a0 a2 : Bool) (sp pl : Rws) (a4 a5 : Int) (hs : num sp) (hp : ∀ r ∈ pl, num (cR r 0)) (h4 : in64 a4) (h5 : 0 ≤ a5 ∧ a5 ≤ 255) :
    (g_law16_SealCuts a0 sp a2 pl a4 a5).run (fun b => b = true) := by
  unfold g_law16_SealCuts
  refine W.bindI (g_seal_Encode_ok _ _ _ _ (fine_of hs hp) (fun hne => ?_) (fun hz => ?_))
  · refine W.bindI (W.mono _ (fun v1 hv1 => ?_) fixed_ok)
    subst hv1
    refine W.iteT (by simp) (W.bindI (W.mono _ (fun v2 hv2 => ?_) fixed_ok))
    subst hv2
    exact W.retI (by simpa using hne)
  · refine W.bindI (W.mono _ (fun v1 hv1 => ?_) fixed_ok)
    subst hv1
    have hF := fine_of hs hp hz
    have hle := encB_len hF
    have hby := byt_rows (encB_lt sp pl)
    have h0 : 4 ≤ (encB sp pl).length := by simp [encB]
    dsimp only
    have hrl := rowsB_len (encB sp pl)
    have hf := dec_fwd hF hz
    have hc := @dec_cut _ _ hF hz
    generalize rowsB (encB sp pl) = m at hby hrl hf hc ⊢
    have hml : 4 ≤ m.length ∧ m.length ≤ 4000000 := by omega
    have ew : IntKind.u64.wrap (m.length : Int) = (m.length : Int) := wrapu64_in (by omega) (by omega)
    obtain ⟨q1, q2⟩ := wrapu_nat a4
    generalize (IntKind.u64.wrap a4).toNat = n at q1 q2
    have ek : IntKind.i64.wrap ((IntKind.u64.wrap a4).tmod (IntKind.u64.wrap (m.length : Int))) = ((n % m.length : Nat) : Int) := by
      have hlt := Nat.mod_lt n (show 0 < m.length by omega)
      rw [ew, ← q1]
      have : (n : Int).tmod (m.length : Int) = ((n % m.length : Nat) : Int) := rfl
      rw [this, wrap64_in] <;> omega
    have hk := Nat.mod_lt n (show 0 < m.length by omega)
    refine W.iteF (by rw [Bool.or_eq_false_iff, Bool.or_eq_false_iff]; exact ⟨⟨rfl, rfl⟩, by rw [beq_eq_false_iff_ne]; omega⟩) (W.needI (by rw [ew]; omega) ?_)
    rw [ek]
    generalize n % m.length = k at hk
    refine W.needI (by omega) ?_
    have et : List.take (((k : Int) - 0).toNat) (List.drop 0 m) = m.take k := by simp
    rw [et]
    have hbt : byt (m.take k) := fun r hr => hby r (List.mem_of_mem_take hr)
    have hdrop : m.drop k ≠ [] := by
      intro e
      have := congrArg List.length e
      simp at this
      omega
    obtain ⟨i, j, hcut⟩ := hc hdrop (List.take_append_drop k m)
    refine W.bindI (g_seal_Decode_ok _ _ hbt (by simp; omega) (fun e => by cases e) (fun e i' k' hne he => ?_) (fun c s c' p ps he => by rw [hcut] at he; cases he))
    rw [hcut] at he
    simp only [Except.error.injEq, Prod.mk.injEq] at he
    obtain ⟨rfl, rfl, rfl⟩ := he
    refine W.needI (by omega) (W.needI (by omega) ?_)
    have hlast : byt [[I a5]] := fun r hr => by
      have : r = [I a5] := by simpa using hr
      subst this
      exact h5
    have hfw := hf [[I a5]]
    rw [if_neg (by simp)] at hfw
    refine W.bindI (g_seal_Decode_ok _ _ (byt_app hby hlast) (by simp; omega) (fun e => by cases e) (fun e i' k' hne he => ?_) (fun c s c' p ps he => by rw [hfw] at he; cases he))
    rw [hfw] at he
    simp only [Except.error.injEq, Prod.mk.injEq] at he
    obtain ⟨rfl, rfl, rfl⟩ := he
    exact W.retI rfl
end Go.Proofs.Ytfekobhcekcniaa.VX

set_option linter.unusedVariables false
set_option linter.unusedSimpArgs false
namespace Go.Proofs.Ytfekobhcekcniaa.VX
/-- Rows of one byte each. -/
def byr (l : Rws) : Prop := ∀ r ∈ l, r = [I (cI r 0)] ∧ 0 ≤ cI r 0 ∧ cI r 0 ≤ 255
theorem byr.byt {l : Rws} (h : byr l) : byt l := fun r hr => (h r hr).2
theorem byr.app {e l r : Rws} (h : byr l) (he : l = e ++ r) : byr r := fun x hx => h x (by rw [he]; simp [hx])
theorem gvGo_inv : ∀ {l : Rws} {i acc v n : Nat}, byr l → gvGo l i acc = (v, n, 0) → ∃ m, v = acc + m * 2 ^ (7 * i) ∧ (0 < i → m ≠ 0) ∧ l = rowsB (uB m) ++ l.drop (n - i) ∧ i < n
  | [], i, acc, v, n, _, h => by simp [gvGo] at h
  | r :: rest, i, acc, v, n, hb, h => by
    obtain ⟨hr, h0, h255⟩ := hb r (List.mem_cons_self ..)
    have hrow : r = [I (((cI r 0).toNat : Nat) : Int)] := by rw [Int.toNat_of_nonneg h0]; exact hr
    have hbn : (cI r 0).toNat ≤ 255 := by omega
    rw [gvGo_cons] at h
    generalize (cI r 0).toNat = b at h hrow hbn
    subst hrow
    split at h
    · simp at h
    · split at h
      · split at h
        · simp at h
        · rename_i hlt hz
          simp only [Prod.mk.injEq] at h
          obtain ⟨rfl, rfl, _⟩ := h
          refine ⟨b, rfl, fun hi hb0 => hz ⟨hi, hb0⟩, ?_, by omega⟩
          rw [uB_small hlt, show i + 1 - i = 1 by omega]
          rfl
      · rename_i hge
        obtain ⟨m, q1, q2, q3, q4⟩ := gvGo_inv (fun x hx => hb x (List.mem_cons_of_mem _ hx)) h
        have hm := q2 (by omega)
        refine ⟨b - 128 + 128 * m, ?_, fun _ => by omega, ?_, by omega⟩
        · rw [q1, pow7, Nat.add_mul, Nat.add_assoc]
          congr 2
          rw [← Nat.mul_assoc, Nat.mul_comm m 128]
        · rw [uB_big (n := b - 128 + 128 * m) (by omega), show (b - 128 + 128 * m) % 128 + 128 = b by omega, show (b - 128 + 128 * m) / 128 = m by omega, show n - i = (n - (i + 1)) + 1 by omega]
          show [I (b : Int)] :: rest = [I (b : Int)] :: (rowsB (uB m) ++ rest.drop (n - (i + 1)))
          rw [← q3]
theorem rdU_inv {max v : Nat} {l r : Rws} (hb : byr l) (h : rdU max l = .ok (v, r)) : l = rowsB (uB v) ++ r ∧ v ≤ max ∧ v < 18446744073709551616 := by
  have h2 := rdU_ok hb.byt h
  refine ⟨?_, h2.1, h2.2.1⟩
  unfold rdU at h
  split at h
  · cases h
  · rename_i h1
    split at h
    · cases h
    · simp only [Except.ok.injEq, Prod.mk.injEq] at h
      obtain ⟨rfl, rfl⟩ := h
      obtain ⟨m, q1, _, q3, _⟩ := gvGo_inv (l := l) (i := 0) (acc := 0) (v := (gv l).1) (n := (gv l).2.1) hb (by show gv l = _; rw [← show (gv l).2.2 = 0 by omega])
      have : (gv l).1 = m := by rw [q1]; simp
      rw [this]
      exact q3
theorem zz_unz {v : Nat} (h : v < 18446744073709551616) : zz (unz v) = v ∧ in64 (unz v) := by
  unfold unz
  split
  · constructor
    · unfold zz; rw [if_pos (by omega)]; omega
    · unfold in64; omega
  · constructor
    · unfold zz; rw [if_neg (by omega)]; omega
    · unfold in64; omega
theorem rdS_inv {x : Int} {l r : Rws} (hb : byr l) (h : rdS l = .ok (x, r)) : l = rowsB (uB (zz x)) ++ r ∧ in64 x := by
  unfold rdS at h
  cases hr : rdU 18446744073709551615 l with
  | error e => rw [hr] at h; cases h
  | ok p =>
    obtain ⟨v, r'⟩ := p
    rw [hr] at h
    simp only [Except.ok.injEq, Prod.mk.injEq] at h
    obtain ⟨rfl, rfl⟩ := h
    obtain ⟨q1, _, q3⟩ := rdU_inv hb hr
    obtain ⟨z1, z2⟩ := zz_unz q3
    exact ⟨by rw [z1]; exact q1, z2⟩
theorem andE_inv {α β : Type} {x : Except Int (α × Rws)} {f : α → Rws → Except Int (β × Rws)} {y : β × Rws} (h : andE x f = .ok y) : ∃ a r, x = .ok (a, r) ∧ f a r = .ok y := by
  cases x with
  | error e => cases h
  | ok p => exact ⟨p.1, p.2, rfl, h⟩
theorem rdSp_inv {s : Int × Int} {l r : Rws} (hb : byr l) (h : rdSp l = .ok (s, r)) : l = rowsB (uB (zz s.1) ++ uB (zz s.2)) ++ r ∧ in64 s.1 ∧ in64 s.2 := by
  obtain ⟨lo, r1, h1, h⟩ := andE_inv h
  obtain ⟨hi, r2, h2, h⟩ := andE_inv h
  simp only [Except.ok.injEq, Prod.mk.injEq] at h
  obtain ⟨rfl, rfl⟩ := h
  obtain ⟨q1, q2⟩ := rdS_inv hb h1
  obtain ⟨q3, q4⟩ := rdS_inv (hb.app q1) h2
  refine ⟨?_, q2, q4⟩
  rw [rowsB_app, List.append_assoc, ← q3]
  exact q1
theorem rdV_inv {v : Nat} {l r : Rws} (hb : byr l) (h : rdV l = .ok (v, r)) : l = rowsB (uB v) ++ r ∧ v ≤ 2147483647 := by
  obtain ⟨w, r1, h1, h⟩ := andE_inv h
  split at h
  · cases h
  · simp only [Except.ok.injEq, Prod.mk.injEq] at h
    obtain ⟨rfl, rfl⟩ := h
    exact ⟨(rdU_inv hb h1).1, by omega⟩
/-- A channel that may be written. -/
def goodCh (c : List AV) : Prop := badCh c = false ∧ ∀ j, in64 (cI c j)
theorem in64_z : in64 0 := by unfold in64; omega
theorem rdCh_inv {c : List AV} {l r : Rws} (hb : byr l) (h : rdCh l = .ok (c, r)) : l = rowsB (chB c) ++ r ∧ goodCh c := by
  obtain ⟨a, r1, h1, h⟩ := andE_inv h
  obtain ⟨b, r2, h2, h⟩ := andE_inv h
  obtain ⟨s, r3, h3, h⟩ := andE_inv h
  obtain ⟨t, r4, h4, h⟩ := andE_inv h
  simp only [Except.ok.injEq, Prod.mk.injEq] at h
  obtain ⟨rfl, rfl⟩ := h
  obtain ⟨q1, b1⟩ := rdV_inv hb h1
  have hb1 := hb.app q1
  obtain ⟨q2, b2⟩ := rdV_inv hb1 h2
  have hb2 := hb1.app q2
  obtain ⟨q3, b3⟩ := rdSp_inv hb2 h3
  have hb3 := hb2.app q3
  obtain ⟨q4, b4⟩ := rdSp_inv hb3 h4
  refine ⟨?_, ?_, fun j => ?_⟩
  · have e : chB [I (a : Int), I (b : Int), I s.1, I s.2, I t.1, I t.2] = uB a ++ uB b ++ (uB (zz s.1) ++ uB (zz s.2)) ++ (uB (zz t.1) ++ uB (zz t.2)) := by
      show uI (a : Int) ++ uI (b : Int) ++ _ ++ _ = _
      rw [uI_len' (by omega), uI_len' (by omega)]
      rfl
    rw [e, rowsB_app, rowsB_app, rowsB_app, List.append_assoc, List.append_assoc, List.append_assoc, ← q4, ← q3, ← q2]
    exact q1
  · show (!(decide (0 ≤ (a : Int) ∧ (a : Int) ≤ 2147483647 ∧ 0 ≤ (b : Int) ∧ (b : Int) ≤ 2147483647))) = false
    simp
    omega
  · match j with
    | 0 => show in64 (a : Int); unfold in64; omega
    | 1 => show in64 (b : Int); unfold in64; omega
    | 2 => exact b3.1
    | 3 => exact b3.2
    | 4 => exact b4.1
    | 5 => exact b4.2
    | j + 6 => exact in64_z
theorem rdMany_inv {α ε : Type} {f : Rws → Except ε (α × Rws)} {enc : α → List Nat} {P : α → Prop} (hf : ∀ {l r : Rws} {a : α}, byr l → f l = .ok (a, r) → l = rowsB (enc a) ++ r ∧ P a) : ∀ {n : Nat} {l r : Rws} {xs : List α}, byr l → rdMany f n l = .ok (xs, r) → l = rowsB (xs.flatMap enc) ++ r ∧ xs.length = n ∧ ∀ x ∈ xs, P x
  | 0, l, r, xs, _, h => by
    simp only [rdMany, Except.ok.injEq, Prod.mk.injEq] at h
    obtain ⟨rfl, rfl⟩ := h
    exact ⟨by simp [rowsB], rfl, by simp⟩
  | n + 1, l, r, xs, hb, h => by
    rw [rdMany_succ] at h
    cases h1 : f l with
    | error e => rw [h1] at h; cases h
    | ok p =>
      obtain ⟨a, r1⟩ := p
      rw [h1] at h
      dsimp only at h
      obtain ⟨q1, q2⟩ := hf hb h1
      cases h2 : rdMany f n r1 with
      | error e => rw [h2] at h; cases h
      | ok p =>
        obtain ⟨ys, r2⟩ := p
        rw [h2] at h
        simp only [Except.ok.injEq, Prod.mk.injEq] at h
        obtain ⟨rfl, rfl⟩ := h
        obtain ⟨z1, z2, z3⟩ := rdMany_inv hf (hb.app q1) h2
        refine ⟨?_, by simp [z2], fun x hx => ?_⟩
        · rw [List.flatMap_cons, rowsB_app, List.append_assoc, ← z1]
          exact q1
        · rcases List.mem_cons.1 hx with rfl | hx
          · exact q2
          · exact z3 x hx
def listB (cs : Rws) : List Nat := uB cs.length ++ cs.flatMap chB
theorem rdList_inv {cs l r : Rws} (hb : byr l) (h : rdList l = .ok (cs, r)) : l = rowsB (listB cs) ++ r ∧ cs.length ≤ 1024 ∧ ∀ c ∈ cs, goodCh c := by
  unfold rdList at h
  cases h1 : rdU 1024 l with
  | error e => rw [h1] at h; cases h
  | ok p =>
    obtain ⟨n, r1⟩ := p
    rw [h1] at h
    dsimp only at h
    obtain ⟨q1, q2, _⟩ := rdU_inv hb h1
    cases h2 : rdMany rdCh n r1 with
    | error e => rw [h2] at h; cases h
    | ok p =>
      obtain ⟨ys, r2⟩ := p
      rw [h2] at h
      simp only [Except.ok.injEq, Prod.mk.injEq] at h
      obtain ⟨rfl, rfl⟩ := h
      obtain ⟨z1, z2, z3⟩ := rdMany_inv (enc := chB) (P := goodCh) (fun hb h => rdCh_inv hb h) (hb.app q1) h2
      refine ⟨?_, by omega, z3⟩
      unfold listB
      rw [rowsB_app, List.append_assoc, ← z1, z2]
      exact q1
theorem rdSpR_inv {s : List AV} {l r : Rws} (hb : byr l) (h : rdSpR l = .ok (s, r)) : l = rowsB (spB s) ++ r ∧ ∀ j, in64 (cI s j) := by
  obtain ⟨x, r1, h1, h⟩ := andE_inv h
  simp only [Except.ok.injEq, Prod.mk.injEq] at h
  obtain ⟨rfl, rfl⟩ := h
  obtain ⟨q1, q2, q3⟩ := rdSp_inv hb h1
  refine ⟨q1, fun j => ?_⟩
  match j with
  | 0 => exact q2
  | 1 => exact q3
  | j + 2 => exact in64_z
theorem body_inv {sp : Rws} {pls : List Rws} {l : Rws} (hb : byr l) (h : body l = .ok (sp, pls)) : l = rowsB (uB sp.length ++ (sp.flatMap spB ++ (uB pls.length ++ pls.flatMap listB))) ∧ sp.length ≤ 65 ∧ num sp ∧ pls.length ≤ 64 ∧ ∀ cs ∈ pls, cs.length ≤ 1024 ∧ ∀ c ∈ cs, goodCh c := by
  unfold body at h
  cases h1 : rdU 65 l with
  | error e => rw [h1] at h; cases h
  | ok p =>
  obtain ⟨n, r1⟩ := p
  rw [h1] at h
  dsimp only at h
  obtain ⟨q1, q2, _⟩ := rdU_inv hb h1
  have hb1 := hb.app q1
  cases h2 : rdMany rdSpR n r1 with
  | error e => rw [h2] at h; cases h
  | ok p =>
  obtain ⟨xs, r2⟩ := p
  rw [h2] at h
  dsimp only at h
  obtain ⟨z1, z2, z3⟩ := rdMany_inv (enc := spB) (P := fun s => ∀ j, in64 (cI s j)) (fun hb h => rdSpR_inv hb h) hb1 h2
  have hb2 := hb1.app z1
  cases h3 : rdU 64 r2 with
  | error e => rw [h3] at h; cases h
  | ok p =>
  obtain ⟨m, r3⟩ := p
  rw [h3] at h
  dsimp only at h
  obtain ⟨y1, y2, _⟩ := rdU_inv hb2 h3
  have hb3 := hb2.app y1
  cases h4 : rdMany rdList m r3 with
  | error e => obtain ⟨⟨e, k⟩, i⟩ := e; rw [h4] at h; cases h
  | ok p =>
  obtain ⟨ys, r4⟩ := p
  rw [h4] at h
  dsimp only at h
  obtain ⟨x1, x2, x3⟩ := rdMany_inv (enc := listB) (P := fun cs => cs.length ≤ 1024 ∧ ∀ c ∈ cs, goodCh c) (fun hb h => rdList_inv hb h) hb3 h4
  split at h
  · rename_i hr
    simp only [Except.ok.injEq, Prod.mk.injEq] at h
    obtain ⟨rfl, rfl⟩ := h
    have hr : r4 = [] := List.length_eq_zero_iff.1 hr
    subst hr
    refine ⟨?_, by omega, z3, by omega, x3⟩
    rw [List.append_nil] at x1
    rw [rowsB_app, rowsB_app, rowsB_app, ← x1, x2, ← y1, ← z1, z2]
    exact q1
  · cases h
end Go.Proofs.Ytfekobhcekcniaa.VX

set_option linter.unusedVariables false
set_option linter.unusedSimpArgs false
namespace Go.Proofs.Ytfekobhcekcniaa.VX
theorem hdGo_good : ∀ {pl : Rws} {i : Nat}, (∀ r ∈ pl, (cR r 0).length ≤ 1024 ∧ ∀ c ∈ cR r 0, badCh c = false) → hdGo pl i = (0, 0, 0)
  | [], _, _ => rfl
  | r :: pl, i, h => by
    obtain ⟨h1, h2⟩ := h r (List.mem_cons_self ..)
    have hn : (cR r 0).findIdx? badCh = none := by rw [List.findIdx?_eq_none_iff]; exact h2
    rw [hdGo_cons, if_neg (by omega), hn]
    exact hdGo_good fun x hx => h x (List.mem_cons_of_mem _ hx)
theorem plB_list : ∀ {pl : Rws} {pls : List Rws}, plans pl = pls → (∀ cs ∈ pls, cs.length ≤ 1024) → pl.flatMap plB = pls.flatMap listB
  | [], pls, h, _ => by subst h; rfl
  | r :: pl, pls, h, hl => by
    subst h
    have h1 := hl (cR r 0) (by simp [plans])
    have h2 := plB_list (pl := pl) rfl (fun cs hc => hl cs (by simp only [plans, List.map_cons, List.mem_cons]; exact .inr hc))
    show plB r ++ pl.flatMap plB = listB (cR r 0) ++ (plans pl).flatMap listB
    rw [h2]
    unfold plB listB
    rw [uI_len' (by omega)]
theorem dec_inv {sp : Rws} {pls : List Rws} {l pl : Rws} (hb : byr l) (h : dec l = .ok (sp, pls)) (hp : plans pl = pls) : l = rowsB (encB sp pl) ∧ Fine sp pl ∧ (hd sp pl).1 = 0 := by
  unfold dec at h
  split at h
  · cases h
  · rename_i hlen
    split at h
    · rename_i hm
      have hbd : byr (l.drop 4) := fun r hr => hb r (List.mem_of_mem_drop hr)
      obtain ⟨q1, q2, q3, q4, q5⟩ := body_inv hbd h
      have hlp : pl.length = pls.length := by rw [← hp]; simp [plans]
      have hmem : ∀ r ∈ pl, cR r 0 ∈ pls := fun r hr => by rw [← hp]; exact List.mem_map.2 ⟨r, hr, rfl⟩
      refine ⟨?_, ⟨q2, by omega, fun r hr => (q5 _ (hmem r hr)).1, q3, fun r hr c hc => ((q5 _ (hmem r hr)).2 c hc).2⟩, ?_⟩
      · match l, hlen, hm, hb, q1 with
        | r0 :: r1 :: r2 :: r3 :: rest, _, hm, hb, q1 =>
          have h0 := (hb r0 (by simp)).1
          have h1 := (hb r1 (by simp)).1
          have h2 := (hb r2 (by simp)).1
          have h3 := (hb r3 (by simp)).1
          unfold magic at hm
          simp only [Bool.and_eq_true, beq_iff_eq] at hm
          obtain ⟨m0, m1, m2, m3⟩ := hm
          have m0 : cI r0 0 = 83 := m0
          have m1 : cI r1 0 = 87 := m1
          have m2 : cI r2 0 = 67 := m2
          have m3 : cI r3 0 = 49 := m3
          rw [m0] at h0
          rw [m1] at h1
          rw [m2] at h2
          rw [m3] at h3
          have q1 : rest = _ := q1
          have e : encB sp pl = [83, 87, 67, 49] ++ (uB sp.length ++ (sp.flatMap spB ++ (uB pls.length ++ pls.flatMap listB))) := by
            unfold encB
            rw [uI_len' (by omega), uI_len' (by omega), plB_list hp (fun cs hc => (q5 cs hc).1), hlp]
            simp only [List.append_assoc]
          rw [e, rowsB_app, ← q1, h0, h1, h2, h3]
          rfl
        | [], hlen, _, _, _ => exact absurd (by simp) hlen
        | [_], hlen, _, _, _ => exact absurd (by simp) hlen
        | [_, _], hlen, _, _, _ => exact absurd (by simp) hlen
        | [_, _, _], hlen, _, _, _ => exact absurd (by simp) hlen
      · unfold hd
        rw [if_neg (by omega), hdGo_good fun r hr => ⟨(q5 _ (hmem r hr)).1, fun c hc => ((q5 _ (hmem r hr)).2 c hc).1⟩]
    · cases h
theorem ri_map {f : List AV → List AV} {l : Rws} {i : Nat} (hi : i < l.length) (j : Nat) : ri (l.map f) i j = cI (f (l.getD i [])) j := by
  rw [ri_eq]
  simp [hi]
theorem eqSpan_ok (b b' : Bool) (l : Rws) (hl : l.length ≤ 140737488355328) {R : Bool → Prop} (h : R true) : (g_slices_Equal___api_Span_api_Span_ b l b' (l.map spV)).run R := by
  unfold g_slices_Equal___api_Span_api_Span_
  refine W.iteF (by simp) (W.bindI (W.loop_for l.length (fun i s => s = (i : Int)) ?_ ?_ rfl))
  · rintro i s hi rfl
    refine W.iteT (by simpa using hi) (W.needI (by constructor <;> omega) (W.needI (by simp; omega) ?_))
    simp only [Int.toNat_natCast, ri_map hi]
    exact W.iteF (by simp [ri_eq, spV, cI, AV.toInt]) (W.retI (wrap_succ (by omega)))
  · rintro s rfl
    exact W.iteF (by simp) (W.retI (W.retI h))
theorem eqChan_ok (b b' : Bool) (l : Rws) (hl : l.length ≤ 140737488355328) {R : Bool → Prop} (h : R true) : (g_slices_Equal___api_Chan_api_Chan_ b l b' (l.map chV)).run R := by
  unfold g_slices_Equal___api_Chan_api_Chan_
  refine W.iteF (by simp) (W.bindI (W.loop_for l.length (fun i s => s = (i : Int)) ?_ ?_ rfl))
  · rintro i s hi rfl
    refine W.iteT (by simpa using hi) (W.needI (by constructor <;> omega) (W.needI (by simp; omega) ?_))
    simp only [Int.toNat_natCast, ri_map hi]
    exact W.iteF (by simp [ri_eq, chV, cI, AV.toInt]) (W.retI (wrap_succ (by omega)))
  · rintro s rfl
    exact W.iteF (by simp) (W.retI (W.retI h))
theorem cR_plans {pl : Rws} {i : Nat} (hi : i < pl.length) : cR (pl.getD i []) 0 = (plans pl).getD i [] := by
  simp [plans, hi]
theorem cert_Same_ok (a0 a2 a4 a6 : Bool) (sp pl pl' : Rws) (hF : Fine sp pl) (hp : plans pl' = pl.map fun r => (cR r 0).map chV) {R : Bool → Prop} (h : R true) : (g_cert_Same a0 sp a2 pl a4 (sp.map spV) a6 pl').run R := by
  unfold g_cert_Same g_slices_EqualFunc_____api_Chan_____api_Chan___api_Chan___api_Chan___slices_Equal___api_Chan_api_Chan_
  have hA := hF.a
  have hB := hF.b
  have hl : pl'.length = pl.length := by
    have := congrArg List.length hp
    simpa [plans] using this
  refine W.bindI (W.bindI (eqSpan_ok _ _ _ (by omega) (W.iteT rfl (W.bindI (W.iteF (by simp [hl]) (W.bindI (W.loop_for pl.length (fun i s => s = (i : Int)) ?_ ?_ rfl)))))))
  · rintro i s hi rfl
    have hc := (hF.get hi).1
    refine W.iteT (by simpa using hi) (W.needI (by constructor <;> omega) (W.needI (by omega) ?_))
    have e : rr pl' i 0 = (rr pl i 0).map chV := by
      rw [rr_eq, rr_eq, cR_plans (by omega), hp]
      simp [hi]
    simp only [Int.toNat_natCast, e]
    exact W.bindI (eqChan_ok _ _ _ (by rw [rr_eq]; omega) (W.iteF rfl (W.retI (wrap_succ (by omega)))))
  · rintro s rfl
    exact W.iteF (by simp) (W.retI (W.retI (W.retI (W.retI h))))
theorem g_law16_SealBack_ok (a0 a2 a4 : Bool) (sp pl l : Rws) (hs : num sp) (hp : ∀ r ∈ pl, num (cR r 0)) (hl : byr l) (hn : l.length ≤ 140737488355328) (h4 : a4 = true → l = []) :
    (g_law16_SealBack a0 sp a2 pl a4 l).run (fun b => b = true) := by
  unfold g_law16_SealBack
  refine W.bindI (W.mono _ (fun v0 hv0 => ?_) fixed_ok)
  subst hv0
  refine W.iteF rfl ?_
  have second : (W.bind (g_seal_Decode (a4) (l)) fun v6 =>
      W.ite (v6.fst != 0) (W.ret ((↑(List.length v6.snd.snd.snd.snd.fst) : Int) == 0 && (↑(List.length v6.snd.snd.snd.snd.snd.snd) : Int) == 0))
        (W.bind (g_seal_Encode (v6.snd.snd.snd.fst) (v6.snd.snd.snd.snd.fst) (v6.snd.snd.snd.snd.snd.fst) (v6.snd.snd.snd.snd.snd.snd)) fun v7 =>
        W.bind (α := Bool) (W.ite (v7.fst == 0 && (v7.snd.fst == 0 && v7.snd.snd.fst == 0)) (W.bind (g_law16_same (v7.snd.snd.snd.fst) (v7.snd.snd.snd.snd) (a4) (l)) fun v8 => W.ret v8) (W.ret false))
        fun v9 => W.ret v9)).run (fun b => b = true) := by
    refine W.bindI (g_seal_Decode_ok _ _ hl.byt hn h4 (fun e i k hne he => ?_) (fun c sp' c' pl' pls hd hpl => ?_))
    · exact W.iteT (by simpa using hne) (W.retI rfl)
    · obtain ⟨q1, q2, q3⟩ := dec_inv hl hd hpl
      refine W.iteF rfl (W.bindI (g_seal_Encode_ok _ _ _ _ (fun _ => q2) (fun hne => absurd q3 hne) (fun _ => ?_)))
      refine W.bindI (W.iteT rfl ?_)
      rw [← q1]
      exact W.bindI (g_law16_same_ok _ _ _ hn (W.retI (W.retI rfl)))
  refine W.bindI (g_seal_Encode_ok _ _ _ _ (fine_of hs hp) (fun hne => ?_) (fun hz => ?_))
  · refine W.bindI (W.iteF (by simpa using hne) (W.iteF rfl (W.retI ?_)))
    exact second
  · have hF := fine_of hs hp hz
    have hle := encB_len hF
    have hf := dec_fwd hF hz []
    rw [List.append_nil] at hf
    replace hf := hf.trans (if_pos rfl)
    refine W.bindI (W.iteT rfl (W.bindI (g_seal_Decode_ok _ _ (byt_rows (encB_lt sp pl)) (by rw [rowsB_len]; omega) (fun e => by cases e) (fun e i k hne he => by rw [hf] at he; cases he) (fun c sp' c' pl' pls hd hpl => ?_))))
    rw [hf] at hd
    simp only [Except.ok.injEq, Prod.mk.injEq] at hd
    obtain ⟨rfl, rfl⟩ := hd
    refine W.bindI (W.iteF rfl (W.bindI (cert_Same_ok _ _ _ _ _ _ _ hF hpl (W.retI (W.iteF rfl (W.retI ?_))))))
    exact second
end Go.Proofs.Ytfekobhcekcniaa.VX

set_option linter.unusedVariables false
set_option linter.unusedSimpArgs false
namespace Go.Proofs.Ytfekobhcekcniaa.VX
theorem gvGo_err : ∀ {l : Rws} {i acc : Nat}, (gvGo l i acc).2.2 ≠ 0 → (gvGo l i acc).1 = 0 ∧ (gvGo l i acc).2.1 = 0
  | [], _, _, _ => ⟨rfl, rfl⟩
  | r :: rest, i, acc, h => by
    rw [gvGo_cons] at h ⊢
    split
    · exact ⟨rfl, rfl⟩
    · rename_i h9
      rw [if_neg h9] at h
      split
      · rename_i h1
        rw [if_pos h1] at h
        split
        · exact ⟨rfl, rfl⟩
        · rename_i h2
          rw [if_neg h2] at h
          exact absurd rfl h
      · rename_i h1
        rw [if_neg h1] at h
        exact gvGo_err h
/-- Bytes that a machine holds. -/
structure Bl (l : Rws) : Prop where
  b : byt l
  n : l.length ≤ 140737488355328
theorem Bl.drop {l : Rws} (h : Bl l) (n : Nat) : Bl (l.drop n) := ⟨byt_drop h.b n, by have := h.n; simp; omega⟩
theorem drop_eq (l : Rws) (n : Nat) : List.take (((l.length : Int)) - (n : Int)).toNat (List.drop ((n : Int)).toNat l) = l.drop n := by
  rw [Int.toNat_natCast]
  exact List.take_of_length_le (by simp)
theorem gv_le {l : Rws} (h : Bl l) : (gv l).2.1 ≤ l.length := by
  by_cases he : (gv l).2.2 = 0
  · exact (gv_ok h.b (v := (gv l).1) (n := (gv l).2.1) (by rw [← he])).2.1
  · have := (gvGo_err (l := l) (i := 0) (acc := 0) he).2
    have : (gv l).2.1 = 0 := this
    omega
theorem refU_any (b : Bool) (l : Rws) (err a3 a4 a5 a6 a7 : Int) (hl : Bl l) {R : Int × Rws × Int → Prop} (h : ∀ v r e, Bl r → R (v, r, e)) : (g___ref04_Reader__U_p b l err a3 a4 a5 a6 a7).run R := by
  unfold g___ref04_Reader__U_p
  refine W.iteC (fun _ => W.retI (h _ _ _ hl)) (fun _ => ?_)
  have := gv_le hl
  refine W.bindI (g_ref04_Get_ok b l hl.b hl.n (W.needI (by dsimp only; omega) (W.retI ?_)))
  show R (_, List.take (((l.length : Int)) - (((gv l).2.1 : Nat) : Int)).toNat (List.drop ((((gv l).2.1 : Nat) : Int)).toNat l), _)
  rw [drop_eq]
  exact h _ _ _ (hl.drop _)
theorem refU_good (b : Bool) (l : Rws) (a3 a4 a5 a6 a7 : Int) (hl : Bl l) {R : Int × Rws × Int → Prop} (he : ∀ e, e ≠ 0 → rdU 18446744073709551615 l = .error e → R (0, l, e)) (hk : ∀ (v : Nat) r, rdU 18446744073709551615 l = .ok (v, r) → Bl r → R ((v : Int), r, 0)) : (g___ref04_Reader__U_p b l 0 a3 a4 a5 a6 a7).run R := by
  unfold g___ref04_Reader__U_p
  have hle := gv_le hl
  refine W.iteF (by simp) (W.bindI (g_ref04_Get_ok b l hl.b hl.n (W.needI (by dsimp only; omega) (W.retI ?_))))
  show R (_, List.take (((l.length : Int)) - (((gv l).2.1 : Nat) : Int)).toNat (List.drop ((((gv l).2.1 : Nat) : Int)).toNat l), _)
  rw [drop_eq]
  by_cases h0 : (gv l).2.2 = 0
  · have hv := (gv_ok hl.b (v := (gv l).1) (n := (gv l).2.1) (by rw [← h0])).2.2.2
    rw [h0]
    exact hk _ _ (by unfold rdU; rw [if_neg (by omega), if_neg (by omega)]) (hl.drop _)
  · obtain ⟨q1, q2⟩ := gvGo_err (l := l) (i := 0) (acc := 0) h0
    have q1 : (gv l).1 = 0 := q1
    have q2 : (gv l).2.1 = 0 := q2
    have := he _ h0 (by unfold rdU; rw [if_pos h0])
    dsimp only
    rw [q1, q2]
    exact this
theorem refN_any (max : Nat) (b : Bool) (l : Rws) (err a4 a5 a6 a7 a8 : Int) (hl : Bl l) {R : Int × Rws × Int → Prop} (h : ∀ v r e, Bl r → R (v, r, e)) : (g___ref04_Reader__N_p (max : Int) b l err a4 a5 a6 a7 a8).run R := by
  unfold g___ref04_Reader__N_p
  refine W.iteC (fun _ => W.retI (h _ _ _ hl)) (fun _ => ?_)
  have := gv_le hl
  refine W.bindI (g_ref04_Get_ok b l hl.b hl.n (W.bindI (W.iteC (fun _ => W.retI (W.iteT (by decide) (W.retI (h _ _ _ hl)))) (fun _ => W.retI (W.iteC (fun _ => W.retI (h _ _ _ hl)) (fun _ => W.needI (by dsimp only; omega) (W.retI ?_)))))))
  show R (_, List.take (((l.length : Int)) - (((gv l).2.1 : Nat) : Int)).toNat (List.drop ((((gv l).2.1 : Nat) : Int)).toNat l), _)
  rw [drop_eq]
  exact h _ _ _ (hl.drop _)
theorem refN_good (max : Nat) (hm : max ≤ 9223372036854775807) (b : Bool) (l : Rws) (a4 a5 a6 a7 a8 : Int) (hl : Bl l) {R : Int × Rws × Int → Prop} (he : ∀ e, e ≠ 0 → rdU max l = .error e → R (0, l, e)) (hk : ∀ (v : Nat) r, rdU max l = .ok (v, r) → Bl r → R ((v : Int), r, 0)) : (g___ref04_Reader__N_p (max : Int) b l 0 a4 a5 a6 a7 a8).run R := by
  unfold g___ref04_Reader__N_p
  have hle := gv_le hl
  refine W.iteF (by simp) (W.bindI (g_ref04_Get_ok b l hl.b hl.n ?_))
  rw [wrapu64_in (x := (max : Int)) (by omega) (by omega)]
  by_cases h0 : (gv l).2.2 = 0
  · by_cases hx : max < (gv l).1
    · have e : rdU max l = .error 42 := by unfold rdU; rw [if_neg (by omega), if_pos hx]
      exact W.bindI (W.iteT (by simp [h0]; omega) (W.retI (W.iteT (by decide) (W.retI (he 42 (by decide) e)))))
    · have e : rdU max l = .ok ((gv l).1, l.drop (gv l).2.1) := by unfold rdU; rw [if_neg (by omega), if_neg hx]
      refine W.bindI (W.iteF (by simp [h0]; omega) (W.retI (W.iteF (by simp [h0]) (W.needI (by dsimp only; omega) (W.retI ?_)))))
      show R (IntKind.i64.wrap (((gv l).1 : Nat) : Int), List.take (((l.length : Int)) - (((gv l).2.1 : Nat) : Int)).toNat (List.drop ((((gv l).2.1 : Nat) : Int)).toNat l), (gv l).2.2)
      rw [drop_eq, wrap64_in (by omega) (by omega), h0]
      exact hk _ _ e (hl.drop _)
  · have e : rdU max l = .error (gv l).2.2 := by unfold rdU; rw [if_pos h0]
    exact W.bindI (W.iteF (by simp [h0]) (W.retI (W.iteT (by simpa using h0) (W.retI (he _ h0 e)))))
theorem unfold_ok {v : Nat} (h : v < 18446744073709551616) {R : Int → Prop} (hr : R (unz v)) : (g_ref04_Unfold (v : Int)).run R := by
  unfold g_ref04_Unfold
  have e1 : (v : Int).tmod 2 = ((v % 2 : Nat) : Int) := rfl
  have e2 : (v : Int).tdiv 2 = ((v / 2 : Nat) : Int) := rfl
  rw [e1, e2, wrapu64_in (x := ((v / 2 : Nat) : Int)) (by omega) (by omega), wrap64_in (x := ((v / 2 : Nat) : Int)) (by omega) (by omega), wrap64_in (x := 0 - ((v / 2 : Nat) : Int)) (by omega) (by omega), wrap64_in (x := 0 - ((v / 2 : Nat) : Int) - 1) (by omega) (by omega)]
  unfold unz at hr
  by_cases h2 : v % 2 = 0
  · rw [if_pos h2] at hr
    exact W.iteT (by rw [h2]; rfl) (W.retI hr)
  · rw [if_neg h2] at hr
    refine W.iteF (by rw [show v % 2 = 1 by omega]; rfl) (W.retI ?_)
    rwa [show 0 - ((v / 2 : Nat) : Int) - 1 = -((v / 2 : Nat) : Int) - 1 by omega]
theorem unfold_any (x : Int) {R : Int → Prop} (hr : ∀ y, R y) : (g_ref04_Unfold x).run R := by
  unfold g_ref04_Unfold
  exact W.iteC (fun _ => W.retI (hr _)) (fun _ => W.retI (hr _))
theorem refS_any (b : Bool) (l : Rws) (err a3 a4 a5 a6 a7 : Int) (hl : Bl l) {R : Int × Rws × Int → Prop} (h : ∀ v r e, Bl r → R (v, r, e)) : (g___ref04_Reader__S_p b l err a3 a4 a5 a6 a7).run R := by
  unfold g___ref04_Reader__S_p
  exact W.bindI (refU_any _ _ _ _ _ _ _ _ hl fun v r e hr => W.bindI (unfold_any _ fun y => W.retI (h _ _ _ hr)))
theorem refS_good (b : Bool) (l : Rws) (a3 a4 a5 a6 a7 : Int) (hl : Bl l) {R : Int × Rws × Int → Prop} (he : ∀ e v, e ≠ 0 → rdS l = .error e → R (v, l, e)) (hk : ∀ v r, rdS l = .ok (v, r) → Bl r → R (v, r, 0)) : (g___ref04_Reader__S_p b l 0 a3 a4 a5 a6 a7).run R := by
  unfold g___ref04_Reader__S_p
  refine W.bindI (refU_good _ _ _ _ _ _ _ hl (fun e hne h => W.bindI (unfold_any _ fun y => W.retI (he _ _ hne (by unfold rdS; rw [h])))) (fun v r h hr => ?_))
  exact W.bindI (unfold_ok (rdU_ok hl.b h).2.1 (W.retI (hk _ _ (by unfold rdS; rw [h]) hr)))
theorem note_ok (e : Int) (b : Bool) (l : Rws) (a3 p1 p2 n m1 m2 : Int) {R : Int × Int × Int → Prop} (h1 : e ≠ 0 → n = 0 → R (e, p1, p2)) (h2 : e = 0 → R (n, m1, m2)) (h3 : n ≠ 0 → R (n, m1, m2)) : (g___ref16_in__note_p e b l a3 p1 p2 n m1 m2).run R := by
  unfold g___ref16_in__note_p
  refine W.iteC (fun h => W.retI ?_) (fun h => W.retI ?_)
  · simp at h
    exact h1 h.1 h.2
  · by_cases he : e = 0
    · exact h2 he
    · refine h3 fun hn => ?_
      simp [he, hn] at h
end Go.Proofs.Ytfekobhcekcniaa.VX

set_option linter.unusedVariables false
set_option linter.unusedSimpArgs false
namespace Go.Proofs.Ytfekobhcekcniaa.VX
theorem inN_any (max : Nat) (b : Bool) (l : Rws) (err a4 a5 n m1 m2 : Int) (hl : Bl l) (hn : n ≠ 0) {R : Int × Rws × Int × Int × Int × Int → Prop} (h : ∀ v r e, Bl r → R (v, r, e, n, m1, m2)) : (g___ref16_in__n_p (max : Int) b l err a4 a5 n m1 m2).run R := by
  unfold g___ref16_in__n_p
  exact W.bindI (refN_any _ _ _ _ _ _ _ _ _ hl fun v r e hr => W.bindI (note_ok _ _ _ _ _ _ _ _ _ (fun _ h0 => absurd h0 hn) (fun _ => W.retI (h _ _ _ hr)) (fun _ => W.retI (h _ _ _ hr))))
theorem inN_good (max : Nat) (hm : max ≤ 9223372036854775807) (b : Bool) (l : Rws) (a4 a5 : Int) (hl : Bl l) {R : Int × Rws × Int × Int × Int × Int → Prop} (he : ∀ e, e ≠ 0 → rdU max l = .error e → R (0, l, e, e, a4, a5)) (hk : ∀ (v : Nat) r, rdU max l = .ok (v, r) → Bl r → R ((v : Int), r, 0, 0, 0, 0)) : (g___ref16_in__n_p (max : Int) b l 0 a4 a5 0 0 0).run R := by
  unfold g___ref16_in__n_p
  refine W.bindI (refN_good _ hm _ _ _ _ _ _ _ hl (fun e hne h => W.bindI (note_ok _ _ _ _ _ _ _ _ _ (fun _ _ => W.retI (he e hne h)) (fun h0 => absurd h0 hne) (fun h0 => absurd rfl h0))) (fun v r h hr => ?_))
  exact W.bindI (note_ok _ _ _ _ _ _ _ _ _ (fun h0 _ => absurd rfl h0) (fun _ => W.retI (hk v r h hr)) (fun h0 => absurd rfl h0))
theorem inSp_any (b : Bool) (l : Rws) (err a3 a4 n m1 m2 : Int) (hl : Bl l) (hn : n ≠ 0) {R : Int × Int × Rws × Int × Int × Int × Int → Prop} (h : ∀ x y r e, Bl r → R (x, y, r, e, n, m1, m2)) : (g___ref16_in__span_p b l err a3 a4 n m1 m2).run R := by
  unfold g___ref16_in__span_p
  have nt : ∀ (e : Int) (l : Rws) (x : Int) {R' : Int × Int × Int → Prop}, R' (n, m1, m2) → (g___ref16_in__note_p e b l x a3 a4 n m1 m2).run R' := fun e l x R' h => note_ok _ _ _ _ _ _ _ _ _ (fun _ h0 => absurd h0 hn) (fun _ => h) (fun _ => h)
  exact W.bindI (refS_any _ _ _ _ _ _ _ _ hl fun v r e hr => W.bindI (nt _ _ _ (W.bindI (refS_any _ _ _ _ _ _ _ _ hr fun v' r' e' hr' => W.bindI (nt _ _ _ (W.retI (h _ _ _ _ hr')))))))
theorem inSp_good (b : Bool) (l : Rws) (a3 a4 : Int) (hl : Bl l) {R : Int × Int × Rws × Int × Int × Int × Int → Prop} (he : ∀ e x y r e', e ≠ 0 → rdSp l = .error e → Bl r → R (x, y, r, e', e, a3, a4)) (hk : ∀ s r, rdSp l = .ok (s, r) → Bl r → R (s.1, s.2, r, 0, 0, 0, 0)) : (g___ref16_in__span_p b l 0 a3 a4 0 0 0).run R := by
  unfold g___ref16_in__span_p
  refine W.bindI (refS_good _ _ _ _ _ _ _ hl (fun e v hne h => ?_) (fun v r h hr => ?_))
  · refine W.bindI (note_ok _ _ _ _ _ _ _ _ _ (fun _ _ => ?_) (fun h0 => absurd h0 hne) (fun h0 => absurd rfl h0))
    refine W.bindI (refS_any _ _ _ _ _ _ _ _ hl fun v' r' e' hr' => ?_)
    have := he e v v' r' e' hne (by unfold rdSp andE; rw [h]) hr'
    exact W.bindI (note_ok _ _ _ _ _ _ _ _ _ (fun _ h0 => absurd h0 hne) (fun _ => W.retI this) (fun _ => W.retI this))
  · refine W.bindI (note_ok _ _ _ _ _ _ _ _ _ (fun h0 _ => absurd rfl h0) (fun _ => ?_) (fun h0 => absurd rfl h0))
    refine W.bindI (refS_good _ _ _ _ _ _ _ hr (fun e v' hne h' => ?_) (fun v' r' h' hr' => ?_))
    · exact W.bindI (note_ok _ _ _ _ _ _ _ _ _ (fun _ _ => W.retI (he e _ _ _ _ hne (by unfold rdSp andE; rw [h]; dsimp only; rw [h']) hr)) (fun h0 => absurd h0 hne) (fun h0 => absurd rfl h0))
    · exact W.bindI (note_ok _ _ _ _ _ _ _ _ _ (fun h0 _ => absurd rfl h0) (fun _ => W.retI (hk (v, v') r' (by unfold rdSp andE; rw [h]; dsimp only; rw [h']) hr')) (fun h0 => absurd rfl h0))
theorem inU_any (b : Bool) (l : Rws) (err a3 a4 n m1 m2 : Int) (hl : Bl l) (hn : n ≠ 0) {R : Int × Rws × Int × Int × Int × Int → Prop} (h : ∀ x r e, Bl r → R (x, r, e, n, m1, m2)) : (g___ref16_in__u_p b l err a3 a4 n m1 m2).run R := by
  unfold g___ref16_in__u_p
  have nt : ∀ (e : Int) (l : Rws) (x : Int) {R' : Int × Int × Int → Prop}, R' (n, m1, m2) → (g___ref16_in__note_p e b l x a3 a4 n m1 m2).run R' := fun e l x R' h => note_ok _ _ _ _ _ _ _ _ _ (fun _ h0 => absurd h0 hn) (fun _ => h) (fun _ => h)
  exact W.bindI (refU_any _ _ _ _ _ _ _ _ hl fun v r e hr => W.bindI (nt _ _ _ (W.iteC (fun _ => W.bindI (nt _ _ _ (W.retI (h _ _ _ hr)))) (fun _ => W.retI (h _ _ _ hr)))))
theorem inU_good (b : Bool) (l : Rws) (a3 a4 : Int) (hl : Bl l) {R : Int × Rws × Int × Int × Int × Int → Prop} (he : ∀ e x r e', e ≠ 0 → rdV l = .error e → Bl r → R (x, r, e', e, a3, a4)) (hk : ∀ (v : Nat) r, rdV l = .ok (v, r) → Bl r → R ((v : Int), r, 0, 0, 0, 0)) : (g___ref16_in__u_p b l 0 a3 a4 0 0 0).run R := by
  unfold g___ref16_in__u_p
  refine W.bindI (refU_good _ _ _ _ _ _ _ hl (fun e hne h => ?_) (fun v r h hr => ?_))
  · refine W.bindI (note_ok _ _ _ _ _ _ _ _ _ (fun _ _ => ?_) (fun h0 => absurd h0 hne) (fun h0 => absurd rfl h0))
    exact W.iteF rfl (W.retI (he e _ _ _ hne (by unfold rdV andE; rw [h]) hl))
  · refine W.bindI (note_ok _ _ _ _ _ _ _ _ _ (fun h0 _ => absurd rfl h0) (fun _ => ?_) (fun h0 => absurd rfl h0))
    refine W.iteC (fun e => ?_) (fun e => ?_)
    · have e : 2147483647 < v := by have := of_decide_eq_true e; omega
      exact W.bindI (note_ok _ _ _ _ _ _ _ _ _ (fun _ _ => W.retI (he 41 _ _ _ (by decide) (by unfold rdV andE; rw [h]; exact if_pos e) hr)) (fun h0 => absurd h0 (by decide)) (fun h0 => absurd rfl h0))
    · have e : ¬ 2147483647 < v := by have := of_decide_eq_false e; omega
      refine W.retI ?_
      show R (IntKind.i64.wrap (v : Int), r, 0, 0, 0, 0)
      rw [wrap64_in (x := (v : Int)) (by omega) (by omega)]
      exact hk v r (by unfold rdV andE; rw [h]; exact if_neg e) hr
theorem inPl_good (b : Bool) (l : Rws) (a3 a4 : Int) (hl : Bl l) {R : Int × Int × Int × Int × Int × Int × Rws × Int × Int × Int × Int → Prop} (he : ∀ e x0 x1 x2 x3 x4 x5 r e', e ≠ 0 → rdCh l = .error e → Bl r → R (x0, x1, x2, x3, x4, x5, r, e', e, a3, a4))
    (hk : ∀ x0 x1 x2 x3 x4 x5 r, rdCh l = .ok ([I x0, I x1, I x2, I x3, I x4, I x5], r) → Bl r → R (x0, x1, x2, x3, x4, x5, r, 0, 0, 0, 0)) : (g___ref16_in__plan_p b l 0 a3 a4 0 0 0).run R := by
  unfold g___ref16_in__plan_p
  refine W.bindI (inU_good _ _ _ _ hl (fun e x r e' hne h hr => ?_) (fun v0 r0 h0 hr0 => ?_))
  · refine W.bindI (inU_any _ _ _ _ _ _ _ _ hr hne fun x1 r1 e1 hr1 => W.bindI (inSp_any _ _ _ _ _ _ _ _ hr1 hne fun x2 x3 r2 e2 hr2 => W.bindI (inSp_any _ _ _ _ _ _ _ _ hr2 hne fun x4 x5 r3 e3 hr3 => W.retI ?_)))
    exact he e _ _ _ _ _ _ _ _ hne (by unfold rdCh andE; rw [h]) hr3
  refine W.bindI (inU_good _ _ _ _ hr0 (fun e x r e' hne h hr => ?_) (fun v1 r1 h1 hr1 => ?_))
  · refine W.bindI (inSp_any _ _ _ _ _ _ _ _ hr hne fun x2 x3 r2 e2 hr2 => W.bindI (inSp_any _ _ _ _ _ _ _ _ hr2 hne fun x4 x5 r3 e3 hr3 => W.retI ?_))
    exact he e _ _ _ _ _ _ _ _ hne (by unfold rdCh andE; rw [h0]; dsimp only; rw [h]) hr3
  refine W.bindI (inSp_good _ _ _ _ hr1 (fun e x y r e' hne h hr => ?_) (fun s r2 h2 hr2 => ?_))
  · refine W.bindI (inSp_any _ _ _ _ _ _ _ _ hr hne fun x4 x5 r3 e3 hr3 => W.retI ?_)
    exact he e _ _ _ _ _ _ _ _ hne (by unfold rdCh andE; rw [h0]; dsimp only; rw [h1]; dsimp only; rw [h]) hr3
  refine W.bindI (inSp_good _ _ _ _ hr2 (fun e x y r e' hne h hr => ?_) (fun t r3 h3 hr3 => ?_))
  · exact W.retI (he e _ _ _ _ _ _ _ _ hne (by unfold rdCh andE; rw [h0]; dsimp only; rw [h1]; dsimp only; rw [h2]; dsimp only; rw [h]) hr)
  · exact W.retI (hk _ _ _ _ _ _ _ (by unfold rdCh andE; rw [h0]; dsimp only; rw [h1]; dsimp only; rw [h2]; dsimp only; rw [h3]) hr3)
theorem inLi_good (b : Bool) (l : Rws) (a3 : Int) (hl : Bl l) {R : Rws × Int × Int × Int × Int × Int × Bool × Rws → Prop} (he : ∀ e (k : Nat) r e' c cs, e ≠ 0 → rdList l = .error (e, k) → Bl r → R (r, e', 0, e, a3, (k : Int), c, cs))
    (hk : ∀ cs r c, rdList l = .ok (cs, r) → Bl r → R (r, 0, 0, 0, 0, 0, c, cs)) : (g___ref16_in__list_p b l 0 a3 0 0 0 0).run R := by
  unfold g___ref16_in__list_p
  refine W.bindI (inN_good 1024 (by omega) _ _ _ _ hl (fun e hne h => ?_) (fun v r1 h h1 => ?_))
  · refine W.bindI (W.loop_unroll (W.iteF (by simp) (W.retI (W.retI ?_))))
    exact he e 0 _ _ _ _ hne (by unfold rdList; rw [h]) hl
  have hv := (rdU_ok hl.b h).1
  refine W.bindI (W.loop_for v (fun i s => (∃ (r : Rws) (p : Int) (c : Bool) (acc : Rws), s = ((i : Int), r, 0, p, 0, 0, 0, c, acc) ∧ Bl r ∧ acc.length = i ∧
      rdMany rdCh v r1 = (match rdMany rdCh (v - i) r with | .error (e, k) => .error (e, k + i) | .ok (xs, r) => .ok (acc ++ xs, r))) ∨
      (∃ (j : Int) (r : Rws) (e' p e : Int) (k : Nat) (c : Bool) (acc : Rws), s = (j, r, e', p, e, a3, (k : Int), c, acc) ∧ e ≠ 0 ∧ Bl r ∧ rdList l = .error (e, k))) ?_ ?_ (.inl ⟨r1, 0, true, [], rfl, h1, rfl, ?_⟩))
  · rintro i s hi (⟨r, p, c, acc, rfl, h2, hlen, hm⟩ | ⟨j, r, e', p, e, k, c, acc, rfl, hne, hr, hE⟩)
    · rw [show v - i = (v - (i + 1)) + 1 by omega] at hm
      have wi := wrap_succ (show i ≤ 140737488355328 by omega)
      refine W.iteT (by simpa using hi) ?_
      simp only [wi]
      refine W.bindI (inPl_good _ _ _ _ h2 (fun e x0 x1 x2 x3 x4 x5 r' e' hne h3 hr' => ?_) (fun x0 x1 x2 x3 x4 x5 r' h3 hr' => ?_))
      · refine W.needI (by simp only [hlen]; omega) (W.retI (.inr ⟨_, r', e', _, e, i + 1, _, _, rfl, hne, hr', ?_⟩))
        unfold rdList; rw [h]; dsimp only; rw [hm, rdMany_succ, h3]; simp
      · refine W.needI (by simp only [hlen]; omega) (W.retI (.inl ⟨r', _, _, _, rfl, hr', by simp [hlen], ?_⟩))
        rw [hm, rdMany_succ, h3]
        dsimp only
        cases rdMany rdCh (v - (i + 1)) r' with
        | error x => obtain ⟨e, k⟩ := x; dsimp only; rw [show k + 1 + i = k + (i + 1) by omega]
        | ok x => obtain ⟨xs, r''⟩ := x; simp
    · refine W.iteF (by simp [hne]) (W.retI (W.retI ?_))
      exact he e k _ _ _ _ hne hE hr
  · rintro s (⟨r, p, c, acc, rfl, h2, hlen, hm⟩ | ⟨j, r, e', p, e, k, c, acc, rfl, hne, hr, hE⟩)
    · refine W.iteF (by simp) (W.retI (W.retI ?_))
      rw [Nat.sub_self] at hm
      refine hk acc r c ?_ h2
      unfold rdList; rw [h]; dsimp only; rw [hm]; simp [rdMany]
    · refine W.iteF (by simp [hne]) (W.retI (W.retI ?_))
      exact he e k _ _ _ _ hne hE hr
  · rw [Nat.sub_zero]
    cases rdMany rdCh v r1 with
    | error x => rfl
    | ok x => rfl
end Go.Proofs.Ytfekobhcekcniaa.VX

set_option linter.unusedVariables false
set_option linter.unusedSimpArgs false
namespace Go.Proofs.Ytfekobhcekcniaa.VX
theorem front_ok (b : Bool) (l : Rws) (hl : byt l) {R : Bool × Rws × Int → Prop} (h1 : l.length < 4 → R (true, [], 40)) (h2 : ¬ l.length < 4 → ¬ magic l = true → R (true, [], 41)) (h3 : ¬ l.length < 4 → magic l = true → R (b, l.drop 4, 0)) : (g_ref09_Front b l (bs [83, 87, 67, 49])).run R := by
  unfold g_ref09_Front
  refine W.iteC (fun e => W.retI (h1 (by have := of_decide_eq_true e; omega))) (fun e => ?_)
  have e : ¬ l.length < 4 := by have := of_decide_eq_false e; omega
  have hsz : (bs [83, 87, 67, 49]).size = 4 := rfl
  have b0 : byteAt (bs [83, 87, 67, 49]) 0 = 83 := rfl
  have b1 : byteAt (bs [83, 87, 67, 49]) 1 = 87 := rfl
  have b2 : byteAt (bs [83, 87, 67, 49]) 2 = 67 := rfl
  have b3 : byteAt (bs [83, 87, 67, 49]) 3 = 49 := rfl
  rw [hsz, b0, b1, b2, b3]
  have hrest := rest_eq l 4 (by omega)
  rw [show ((4 : Nat) : Int) = 4 from rfl] at hrest
  rw [show List.drop 4 l = List.drop (4 : Int).toNat l from rfl, hrest]
  unfold magic at h2 h3
  refine W.needI (by omega) (W.needI (by omega) (W.iteC (fun q => W.retI (h2 e (by simp at q; simp [q]))) (fun q0 => ?_)))
  refine W.needI (by omega) (W.needI (by omega) (W.iteC (fun q => W.retI (h2 e (by simp at q; simp [q]))) (fun q1 => ?_)))
  refine W.needI (by omega) (W.needI (by omega) (W.iteC (fun q => W.retI (h2 e (by simp at q; simp [q]))) (fun q2 => ?_)))
  refine W.needI (by omega) (W.needI (by omega) (W.iteC (fun q => W.retI (h2 e (by simp at q; simp [q]))) (fun q3 => ?_)))
  refine W.needI (by omega) (W.retI (h3 e ?_))
  simp at q0 q1 q2 q3
  simp [q0, q1, q2, q3]
theorem g_ref16_Decode_ok (b : Bool) (l : Rws) (hl : byt l) (hn : l.length ≤ 140737488355328) {R : Int × Int × Int × Bool × Rws × Bool × Rws → Prop}
    (he : ∀ e (i k : Nat), e ≠ 0 → dec l = .error (e, i, k) → R (e, (i : Int), (k : Int), true, [], true, [])) (hk : ∀ c sp c' pl pls, dec l = .ok (sp, pls) → plans pl = pls → R (0, 0, 0, c, sp, c', pl)) : (g_ref16_Decode b l).run R := by
  unfold g_ref16_Decode
  refine W.bindI (front_ok b l hl (fun h => ?_) (fun h1 h2 => ?_) (fun h1 h2 => ?_))
  · exact W.iteT rfl (W.retI (he 40 0 0 (by decide) (by unfold dec; rw [if_pos h])))
  · exact W.iteT rfl (W.retI (he 41 0 0 (by decide) (by unfold dec; rw [if_neg h1, if_neg h2])))
  have hd : dec l = body (l.drop 4) := by unfold dec; rw [if_neg h1, if_pos h2]
  rw [hd] at he hk
  have hm : Bl (l.drop 4) := (Bl.mk hl hn).drop 4
  generalize l.drop 4 = m at he hk hm
  refine W.iteF rfl ?_
  have nt : ∀ (e : Int) (b : Bool) (l : Rws) (x p1 p2 n m1 m2 : Int) {R' : Int × Int × Int → Prop}, n ≠ 0 → R' (n, m1, m2) → (g___ref16_in__note_p e b l x p1 p2 n m1 m2).run R' := fun e b l x p1 p2 n m1 m2 R' hn h => note_ok _ _ _ _ _ _ _ _ _ (fun _ h0 => absurd h0 hn) (fun _ => h) (fun _ => h)
  -- the spans
  refine W.mono (R := fun v1 : Int × Rws × Int × Int × Int × Int => (∃ (v : Nat) (r : Rws), v1 = ((v : Int), r, 0, 0, 0, 0) ∧ rdU 65 m = .ok (v, r) ∧ Bl r) ∨ (∃ e, v1 = (0, m, e, e, 0, 0) ∧ e ≠ 0 ∧ rdU 65 m = .error e)) _ (fun v1 hv1 => ?_)
    (inN_good 65 (by omega) b m 0 0 hm (fun e hne h => .inr ⟨e, rfl, hne, h⟩) (fun v r h hr => .inl ⟨v, r, rfl, h, hr⟩))
  refine W.bindI (W.mono (R := fun v4 : Rws × Int × Int × Int × Int × Bool × Rws =>
    (∃ (v : Nat) (r1 r : Rws) (c : Bool) (acc : Rws), v4 = (r, 0, 0, 0, 0, c, acc) ∧ Bl r ∧ rdU 65 m = .ok (v, r1) ∧ rdMany rdSpR v r1 = .ok (acc, r)) ∨
    (∃ (r : Rws) (e' e : Int) (c : Bool) (acc : Rws), v4 = (r, e', e, 0, 0, c, acc) ∧ e ≠ 0 ∧ Bl r ∧ body m = .error (e, 0, 0))) _ (fun v4 hv4 => ?_) ?_)
  case refine_2 =>
    rcases hv1 with ⟨v, r1, rfl, h, h1⟩ | ⟨e, rfl, hne, h⟩
    · have hv := (rdU_ok hm.b h).1
      refine W.loop_for v (fun i s => (∃ (r : Rws) (c : Bool) (acc : Rws), s = ((i : Int), r, 0, 0, 0, 0, c, acc) ∧ Bl r ∧ acc.length = i ∧
          rdMany rdSpR v r1 = (match rdMany rdSpR (v - i) r with | .error (e, k) => .error (e, k + i) | .ok (xs, r) => .ok (acc ++ xs, r))) ∨
          (∃ (j : Int) (r : Rws) (e' e : Int) (c : Bool) (acc : Rws), s = (j, r, e', e, 0, 0, c, acc) ∧ e ≠ 0 ∧ Bl r ∧ body m = .error (e, 0, 0))) ?_ ?_ (.inl ⟨r1, true, [], rfl, h1, rfl, ?_⟩)
      · rintro i s hi (⟨r, c, acc, rfl, h2, hlen, hm2⟩ | ⟨j, r, e', e, c, acc, rfl, hne, hr, hE⟩)
        · rw [show v - i = (v - (i + 1)) + 1 by omega] at hm2
          have wi := wrap_succ (show i ≤ 140737488355328 by omega)
          refine W.iteT (by simpa using hi) ?_
          refine W.bindI (inSp_good _ _ _ _ h2 (fun e x y r' e' hne h3 hr' => ?_) (fun s r' h3 hr' => ?_))
          · refine W.needI (by simp only [hlen]; omega) (W.retI (.inr ⟨_, r', e', e, _, _, rfl, hne, hr', ?_⟩))
            have h4 : rdSpR r = .error e := by unfold rdSpR andE; rw [h3]
            unfold body; rw [h]; dsimp only; rw [hm2, rdMany_succ, h4]
          · have h4 : rdSpR r = .ok ([I s.1, I s.2], r') := by unfold rdSpR andE; rw [h3]
            refine W.needI (by simp only [hlen]; omega) (W.retI (.inl ⟨r', _, _, by simp only [wi]; rfl, hr', by simp [hlen], ?_⟩))
            rw [hm2, rdMany_succ, h4]
            dsimp only
            cases rdMany rdSpR (v - (i + 1)) r' with
            | error x => obtain ⟨e, k⟩ := x; dsimp only; rw [show k + 1 + i = k + (i + 1) by omega]
            | ok x => obtain ⟨xs, r''⟩ := x; simp
        · exact W.iteF (by simp [hne]) (W.retI (.inr ⟨r, e', e, c, acc, rfl, hne, hr, hE⟩))
      · rintro s (⟨r, c, acc, rfl, h2, hlen, hm2⟩ | ⟨j, r, e', e, c, acc, rfl, hne, hr, hE⟩)
        · refine W.iteF (by simp) (W.retI (.inl ⟨v, r1, r, c, acc, rfl, h2, h, ?_⟩))
          rw [Nat.sub_self] at hm2
          rw [hm2]; simp [rdMany]
        · exact W.iteF (by simp [hne]) (W.retI (.inr ⟨r, e', e, c, acc, rfl, hne, hr, hE⟩))
      · rw [Nat.sub_zero]
        cases rdMany rdSpR v r1 with
        | error x => rfl
        | ok x => rfl
    · exact W.loop_unroll (W.iteF (by simp) (W.retI (.inr ⟨_, _, _, _, _, rfl, hne, hm, by unfold body; rw [h]⟩)))
  case refine_1 =>
  rcases hv4 with ⟨v, r1, r, c, acc, rfl, hr, h, hsp⟩ | ⟨r, e', e, c, acc, rfl, hne, hr, hE⟩
  case inr =>
    refine W.bindI (inN_any 64 _ _ _ _ _ _ _ _ hr hne fun x r' e1 hr' => W.bindI (W.loop_unroll (W.iteF (by simp [hne]) (W.retI ?_))))
    unfold g___ref04_Reader__End_p
    refine W.bindI (W.iteC (fun _ => W.retI ?_) (fun _ => W.retI ?_))
    · exact W.bindI (nt _ _ _ _ _ _ _ _ _ hne (W.iteT (by simpa using hne) (W.retI (he e 0 0 hne hE))))
    · exact W.bindI (nt _ _ _ _ _ _ _ _ _ hne (W.iteT (by simpa using hne) (W.retI (he e 0 0 hne hE))))
  -- the lists
  refine W.bindI (W.mono (R := fun v5 : Int × Rws × Int × Int × Int × Int => (∃ (v : Nat) (r2 : Rws), v5 = ((v : Int), r2, 0, 0, 0, 0) ∧ rdU 64 r = .ok (v, r2) ∧ Bl r2) ∨ (∃ e, v5 = (0, r, e, e, 0, 0) ∧ e ≠ 0 ∧ rdU 64 r = .error e)) _ (fun v5 hv5 => ?_)
    (inN_good 64 (by omega) b r 0 0 hr (fun e hne h => .inr ⟨e, rfl, hne, h⟩) (fun v r h hr => .inl ⟨v, r, rfl, h, hr⟩)))
  refine W.bindI (W.mono (R := fun v8 : Rws × Int × Int × Int × Int × Int × Int × Bool × Rws =>
    (∃ (v2 : Nat) (r2 r3 : Rws) (p : Int) (c : Bool) (acc2 : Rws), v8 = (r3, 0, p, 0, 0, 0, 0, c, acc2) ∧ Bl r3 ∧ rdU 64 r = .ok (v2, r2) ∧ rdMany rdList v2 r2 = .ok (plans acc2, r3)) ∨
    (∃ (r3 : Rws) (e' p p' e : Int) (i k : Nat) (c : Bool) (acc2 : Rws), v8 = (r3, e', p, p', e, (i : Int), (k : Int), c, acc2) ∧ e ≠ 0 ∧ body m = .error (e, i, k))) _ (fun v8 hv8 => ?_) ?_)
  case refine_2 =>
    rcases hv5 with ⟨v2, r2, rfl, h3, hr2⟩ | ⟨e, rfl, hne, h3⟩
    · have hv2 := (rdU_ok hr.b h3).1
      refine W.loop_for v2 (fun i s => (∃ (r3 : Rws) (p : Int) (c : Bool) (acc2 : Rws), s = ((i : Int), r3, 0, p, 0, 0, 0, 0, c, acc2) ∧ Bl r3 ∧ acc2.length = i ∧
          rdMany rdList v2 r2 = (match rdMany rdList (v2 - i) r3 with | .error (e, k) => .error (e, k + i) | .ok (xs, r) => .ok (plans acc2 ++ xs, r))) ∨
          (∃ (j : Int) (r3 : Rws) (e' p p' e : Int) (i k : Nat) (c : Bool) (acc2 : Rws), s = (j, r3, e', p, p', e, (i : Int), (k : Int), c, acc2) ∧ e ≠ 0 ∧ body m = .error (e, i, k))) ?_ ?_ (.inl ⟨r2, 0, true, [], rfl, hr2, rfl, ?_⟩)
      · rintro i s hi (⟨r3, p, c2, acc2, rfl, h4, hlen, hm2⟩ | ⟨j, r3, e', p, p', e, i', k, c2, acc2, rfl, hne, hE⟩)
        · rw [show v2 - i = (v2 - (i + 1)) + 1 by omega] at hm2
          have wi := wrap_succ (show i ≤ 140737488355328 by omega)
          refine W.iteT (by simpa using hi) ?_
          simp only [wi]
          refine W.bindI (inLi_good _ _ _ h4 (fun e k r' e' c cs hne h5 hr' => ?_) (fun cs r' c3 h5 hr' => ?_))
          · refine W.needI (by simp only [hlen]; omega) (W.retI (.inr ⟨_, r', e', _, _, e, i + 1, k, _, _, rfl, hne, ?_⟩))
            unfold body; rw [h]; dsimp only; rw [hsp]; dsimp only; rw [h3]; dsimp only; rw [hm2, rdMany_succ, h5]; simp
          · refine W.needI (by simp only [hlen]; omega) (W.retI (.inl ⟨r', _, _, _, rfl, hr', by simp [hlen], ?_⟩))
            rw [hm2, rdMany_succ, h5]
            dsimp only
            have ep : plans (acc2 ++ [[AV.sl c3 0 cs]]) = plans acc2 ++ [cs] := by simp [plans, cR, AV.toRows]
            rw [ep]
            cases rdMany rdList (v2 - (i + 1)) r' with
            | error x => obtain ⟨e, k⟩ := x; dsimp only; rw [show k + 1 + i = k + (i + 1) by omega]
            | ok x => obtain ⟨xs, r''⟩ := x; simp
        · exact W.iteF (by simp [hne]) (W.retI (.inr ⟨r3, e', p, p', e, i', k, c2, acc2, rfl, hne, hE⟩))
      · rintro s (⟨r3, p, c2, acc2, rfl, h4, hlen, hm2⟩ | ⟨j, r3, e', p, p', e, i', k, c2, acc2, rfl, hne, hE⟩)
        · refine W.iteF (by simp) (W.retI (.inl ⟨v2, r2, r3, p, c2, acc2, rfl, h4, h3, ?_⟩))
          rw [Nat.sub_self] at hm2
          rw [hm2]; simp [rdMany]
        · exact W.iteF (by simp [hne]) (W.retI (.inr ⟨r3, e', p, p', e, i', k, c2, acc2, rfl, hne, hE⟩))
      · rw [Nat.sub_zero]
        cases rdMany rdList v2 r2 with
        | error x => rfl
        | ok x => rfl
    · exact W.loop_unroll (W.iteF (by simp) (W.retI (.inr ⟨_, _, _, _, _, 0, 0, _, _, rfl, hne, by unfold body; rw [h]; dsimp only; rw [hsp]; dsimp only; rw [h3]⟩)))
  case refine_1 =>
  unfold g___ref04_Reader__End_p
  rcases hv8 with ⟨v2, r2, r3, p, c2, acc2, rfl, h4, h3, hls⟩ | ⟨r3, e', p, p', e, i, k, c2, acc2, rfl, hne, hE⟩
  · have hbd : body m = if r3.length = 0 then .ok (acc, plans acc2) else .error (43, 0, 0) := by
      unfold body; rw [h]; dsimp only; rw [hsp]; dsimp only; rw [h3]; dsimp only; rw [hls]
    refine W.bindI (W.iteC (fun e9 => W.retI ?_) (fun e9 => W.retI ?_))
    · refine W.bindI (note_ok _ _ _ _ _ _ _ _ _ (fun _ _ => W.iteT rfl (W.retI (he 43 0 0 (by decide) ?_))) (fun h0 => absurd h0 (by decide)) (fun h0 => absurd rfl h0))
      have hne : ¬ r3.length = 0 := by
        intro h0
        have h0 := List.length_eq_zero_iff.1 h0
        subst h0
        simp at e9
      rw [hbd, if_neg hne]
    · refine W.bindI (note_ok _ _ _ _ _ _ _ _ _ (fun h0 _ => absurd rfl h0) (fun _ => W.iteF rfl (W.retI (hk _ _ _ _ _ ?_ rfl))) (fun h0 => absurd rfl h0))
      have heq : r3.length = 0 := by
        simp at e9
        simpa using e9
      rw [hbd, if_pos heq]
  · refine W.bindI (W.iteC (fun _ => W.retI ?_) (fun _ => W.retI ?_))
    · exact W.bindI (nt _ _ _ _ _ _ _ _ _ hne (W.iteT (by simpa using hne) (W.retI (he e i k hne hE))))
    · exact W.bindI (nt _ _ _ _ _ _ _ _ _ hne (W.iteT (by simpa using hne) (W.retI (he e i k hne hE))))
theorem rdMany_len {α ε : Type} {f : Rws → Except ε (α × Rws)} {P : α → Prop} (hf : ∀ {l r : Rws} {a : α}, byt l → f l = .ok (a, r) → byt r ∧ P a) : ∀ {n : Nat} {l r : Rws} {xs : List α}, byt l → rdMany f n l = .ok (xs, r) → byt r ∧ xs.length = n ∧ ∀ x ∈ xs, P x
  | 0, l, r, xs, hb, h => by
    simp only [rdMany, Except.ok.injEq, Prod.mk.injEq] at h
    obtain ⟨rfl, rfl⟩ := h
    exact ⟨hb, rfl, by simp⟩
  | n + 1, l, r, xs, hb, h => by
    rw [rdMany_succ] at h
    cases h1 : f l with
    | error e => rw [h1] at h; cases h
    | ok p =>
      obtain ⟨a, r1⟩ := p
      rw [h1] at h
      dsimp only at h
      obtain ⟨q1, q2⟩ := hf hb h1
      cases h2 : rdMany f n r1 with
      | error e => rw [h2] at h; cases h
      | ok p =>
        obtain ⟨ys, r2⟩ := p
        rw [h2] at h
        simp only [Except.ok.injEq, Prod.mk.injEq] at h
        obtain ⟨rfl, rfl⟩ := h
        obtain ⟨z1, z2, z3⟩ := rdMany_len hf q1 h2
        refine ⟨z1, by simp [z2], fun x hx => ?_⟩
        rcases List.mem_cons.1 hx with rfl | hx
        · exact q2
        · exact z3 x hx
theorem rdS_byt {l r : Rws} {x : Int} (hb : byt l) (h : rdS l = .ok (x, r)) : byt r := by
  unfold rdS at h
  cases hr : rdU 18446744073709551615 l with
  | error e => rw [hr] at h; cases h
  | ok p =>
    rw [hr] at h
    simp only [Except.ok.injEq, Prod.mk.injEq] at h
    obtain ⟨_, rfl⟩ := h
    exact (rdU_ok hb hr).2.2.1
theorem rdSp_byt {l r : Rws} {s : Int × Int} (hb : byt l) (h : rdSp l = .ok (s, r)) : byt r := by
  obtain ⟨lo, r1, h1, h⟩ := andE_inv h
  obtain ⟨hi, r2, h2, h⟩ := andE_inv h
  simp only [Except.ok.injEq, Prod.mk.injEq] at h
  obtain ⟨_, rfl⟩ := h
  exact rdS_byt (rdS_byt hb h1) h2
theorem rdV_byt {l r : Rws} {v : Nat} (hb : byt l) (h : rdV l = .ok (v, r)) : byt r := by
  obtain ⟨w, r1, h1, h⟩ := andE_inv h
  split at h
  · cases h
  · simp only [Except.ok.injEq, Prod.mk.injEq] at h
    obtain ⟨_, rfl⟩ := h
    exact (rdU_ok hb h1).2.2.1
theorem rdCh_byt {l r : Rws} {c : List AV} (hb : byt l) (h : rdCh l = .ok (c, r)) : byt r := by
  obtain ⟨a, r1, h1, h⟩ := andE_inv h
  obtain ⟨b, r2, h2, h⟩ := andE_inv h
  obtain ⟨s, r3, h3, h⟩ := andE_inv h
  obtain ⟨t, r4, h4, h⟩ := andE_inv h
  simp only [Except.ok.injEq, Prod.mk.injEq] at h
  obtain ⟨_, rfl⟩ := h
  exact rdSp_byt (rdSp_byt (rdV_byt (rdV_byt hb h1) h2) h3) h4
theorem rdList_byt {l r cs : Rws} (hb : byt l) (h : rdList l = .ok (cs, r)) : byt r ∧ cs.length ≤ 1024 := by
  unfold rdList at h
  cases h1 : rdU 1024 l with
  | error e => rw [h1] at h; cases h
  | ok p =>
    obtain ⟨n, r1⟩ := p
    rw [h1] at h
    dsimp only at h
    have q := rdU_ok hb h1
    cases h2 : rdMany rdCh n r1 with
    | error e => rw [h2] at h; cases h
    | ok p =>
      obtain ⟨ys, r2⟩ := p
      rw [h2] at h
      simp only [Except.ok.injEq, Prod.mk.injEq] at h
      obtain ⟨rfl, rfl⟩ := h
      obtain ⟨z1, z2, _⟩ := rdMany_len (P := fun _ => True) (fun hb h => ⟨rdCh_byt hb h, trivial⟩) q.2.2.1 h2
      exact ⟨z1, by omega⟩
theorem dec_len {l sp : Rws} {pls : List Rws} (hb : byt l) (h : dec l = .ok (sp, pls)) : sp.length ≤ 65 ∧ pls.length ≤ 64 ∧ ∀ cs ∈ pls, cs.length ≤ 1024 := by
  unfold dec at h
  split at h
  · cases h
  · split at h
    · have hb4 := byt_drop hb 4
      unfold body at h
      cases h1 : rdU 65 (l.drop 4) with
      | error e => rw [h1] at h; cases h
      | ok p =>
      obtain ⟨n, r1⟩ := p
      rw [h1] at h
      dsimp only at h
      have q := rdU_ok hb4 h1
      cases h2 : rdMany rdSpR n r1 with
      | error e => rw [h2] at h; cases h
      | ok p =>
      obtain ⟨xs, r2⟩ := p
      rw [h2] at h
      dsimp only at h
      obtain ⟨z1, z2, _⟩ := rdMany_len (f := rdSpR) (P := fun _ => True) (fun hb h => by
        obtain ⟨x, r, h1, h⟩ := andE_inv h
        simp only [Except.ok.injEq, Prod.mk.injEq] at h
        obtain ⟨_, rfl⟩ := h
        exact ⟨rdSp_byt hb h1, trivial⟩) q.2.2.1 h2
      cases h3 : rdU 64 r2 with
      | error e => rw [h3] at h; cases h
      | ok p =>
      obtain ⟨m, r3⟩ := p
      rw [h3] at h
      dsimp only at h
      have y := rdU_ok z1 h3
      cases h4 : rdMany rdList m r3 with
      | error e => obtain ⟨⟨e, k⟩, i⟩ := e; rw [h4] at h; cases h
      | ok p =>
      obtain ⟨ys, r4⟩ := p
      rw [h4] at h
      dsimp only at h
      obtain ⟨x1, x2, x3⟩ := rdMany_len (f := rdList) (P := fun cs => cs.length ≤ 1024) (fun hb h => rdList_byt hb h) y.2.2.1 h4
      split at h
      · simp only [Except.ok.injEq, Prod.mk.injEq] at h
        obtain ⟨rfl, rfl⟩ := h
        exact ⟨by omega, by omega, x3⟩
      · cases h
    · cases h
theorem g_law16_SealDecodes_ok (a0 : Bool) (l : Rws) (hl : byt l) (hn : l.length ≤ 140737488351232) (h0 : a0 = true → l = []) : (g_law16_SealDecodes a0 l).run (fun b => b = true) := by
  unfold g_law16_SealDecodes
  refine W.needI (by omega) ?_
  have fin : ∀ v0 v1 : Int × Int × Int × Bool × Rws × Bool × Rws, v0.1 = v1.1 → v0.2.1 = v1.2.1 → v0.2.2.1 = v1.2.2.1 → v0.2.2.2.2.1 = v1.2.2.2.2.1 → plans v0.2.2.2.2.2.2 = plans v1.2.2.2.2.2.2 → v0.2.2.2.2.1.length ≤ 140737488355328 → v0.2.2.2.2.2.2.length ≤ 140737488355328 → (∀ i, (cR (v0.2.2.2.2.2.2.getD i []) 0).length ≤ 140737488355328) →
      ((g_law16_fixed.bind fun v2 => W.ite (v2 && (v0.fst == v1.fst && (v0.snd.fst == v1.snd.fst && v0.snd.snd.fst == v1.snd.snd.fst))) (W.bind (g_ref15_Same (v0.snd.snd.snd.fst) (v0.snd.snd.snd.snd.fst) (v0.snd.snd.snd.snd.snd.fst) (v0.snd.snd.snd.snd.snd.snd) (v1.snd.snd.snd.fst) (v1.snd.snd.snd.snd.fst) (v1.snd.snd.snd.snd.snd.fst) (v1.snd.snd.snd.snd.snd.snd)) fun v3 =>
        W.ite (v3) (W.bind (g_law16_same (a0) (l) (false) (l)) fun v4 => W.ret v4) (W.ret false)) (W.ret false)).bind fun v5 => W.ret v5).run (fun b => b = true) := by
    intro v0 v1 q1 q2 q3 q4 q5 q6 q7 q8
    refine W.bindI (W.bindI (W.mono _ (fun v3 hv3 => ?_) fixed_ok))
    subst hv3
    refine W.iteT (by simp [q1, q2, q3]) ?_
    rw [← q4]
    have he : eqPl v0.2.2.2.2.2.2 v1.2.2.2.2.2.2 := ⟨len_plans q5, fun i hi => by rw [cR_plans hi, cR_plans (by rw [← len_plans q5]; exact hi), q5]⟩
    exact W.bindI (g_ref15_Same_ok _ _ _ _ _ _ _ q6 q7 q8 he (W.iteT rfl (W.bindI (g_law16_same_ok _ _ _ (by omega) (W.retI (W.retI rfl))))))
  have nil8 : ∀ i, (cR (([] : Rws).getD i []) 0).length ≤ 140737488355328 := fun i => by simp [cR, AV.toRows]
  refine W.bindI (g_seal_Decode_ok _ _ hl (by omega) h0 (fun e i k hne he => ?_) (fun c sp c' pl pls hd hp => ?_))
  · refine W.bindI (g_ref16_Decode_ok _ _ hl (by omega) (fun e' i' k' hne' he' => ?_) (fun c sp c' pl pls hd hp => by rw [he] at hd; cases hd))
    rw [he] at he'
    simp only [Except.error.injEq, Prod.mk.injEq] at he'
    obtain ⟨rfl, rfl, rfl⟩ := he'
    exact fin _ _ rfl rfl rfl rfl rfl (by simp) (by simp) nil8
  · refine W.bindI (g_ref16_Decode_ok _ _ hl (by omega) (fun e' i' k' hne' he' => by rw [hd] at he'; cases he') (fun c2 sp2 c2' pl2 pls2 hd2 hp2 => ?_))
    rw [hd] at hd2
    simp only [Except.ok.injEq, Prod.mk.injEq] at hd2
    obtain ⟨rfl, rfl⟩ := hd2
    obtain ⟨s1, s2, s3⟩ := dec_len hl hd
    refine fin _ _ rfl rfl rfl rfl (hp.trans hp2.symm) (by dsimp only; omega) (by have : pl.length = pls.length := by { rw [← hp]; simp [plans] }; dsimp only; omega) (fun i => ?_)
    dsimp only
    by_cases hi : i < pl.length
    · have hm : cR (pl.getD i []) 0 ∈ pls := by
        rw [← hp, show pl.getD i [] = pl[i] by simp [hi]]
        exact List.mem_map.2 ⟨_, List.getElem_mem hi, rfl⟩
      have := s3 _ hm
      omega
    · rw [show pl.getD i [] = [] by simp [Nat.le_of_not_lt hi]]
      simp [cR, AV.toRows]
end Go.Proofs.Ytfekobhcekcniaa.VX
