/- Wire forms: what PutU, PutS, U, S append. -/
import Derived.Test.YtfekobhcekcniaaVS
import Derived.IntWalk
import Derived.Handy
import Derived.WalkKit
set_option linter.unusedVariables false
set_option linter.unusedSimpArgs false
set_option linter.unusedVariables false
set_option linter.unusedSimpArgs false
namespace Go.Proofs.Ytfekobhcekcniaa.VX
theorem W.bindI {α β : Type} {x : W α} {f : α → W β} {R : β → Prop} (h : x.run fun a => (f a).run R) : (W.bind x f).run R := h
theorem W.retI {α : Type} {a : α} {R : α → Prop} (h : R a) : (W.ret a).run R := h
theorem W.needI {α : Type} {c : Prop} {x : W α} {R : α → Prop} (hc : c) (h : x.run R) : (W.need c x).run R := ⟨hc, h⟩
theorem W.iteT {α : Type} {b : Bool} {x y : W α} {R : α → Prop} (hb : b = true) (h : x.run R) : (W.ite b x y).run R := ⟨fun _ => h, fun e => by rw [hb] at e; cases e⟩
theorem W.iteF {α : Type} {b : Bool} {x y : W α} {R : α → Prop} (hb : b = false) (h : y.run R) : (W.ite b x y).run R := ⟨fun e => (by rw [hb] at e; cases e), fun _ => h⟩
theorem W.iteC {α : Type} {b : Bool} {x y : W α} {R : α → Prop} (h : b = true → x.run R) (h' : b = false → y.run R) : (W.ite b x y).run R := XSplit.mk h h'
theorem wrap64_in {x : Int} (h : -9223372036854775808 ≤ x) (h' : x ≤ 9223372036854775807) : IntKind.i64.wrap x = x := by
  rw [IntKind.wrap_i64]; omega
theorem wrapu64_in {x : Int} (h : 0 ≤ x) (h' : x ≤ 18446744073709551615) : IntKind.u64.wrap x = x := by
  rw [IntKind.wrap_u64]; omega
/-- The bytes of a number: seven bits each, the low ones first. -/
def uB (n : Nat) : List Nat := if n < 128 then [n] else (n % 128 + 128) :: uB (n / 128)
termination_by n
decreasing_by omega
def rowsB (l : List Nat) : Rws := l.map fun (b : Nat) => [I (b : Int)]
theorem rowsB_app (l m : List Nat) : rowsB (l ++ m) = rowsB l ++ rowsB m := by simp [rowsB]
theorem rowsB_len (l : List Nat) : (rowsB l).length = l.length := by simp [rowsB]
theorem uB_small {n : Nat} (h : n < 128) : uB n = [n] := by rw [uB, if_pos h]
theorem uB_big {n : Nat} (h : 128 ≤ n) : uB n = (n % 128 + 128) :: uB (n / 128) := by rw [uB, if_neg (by omega)]
theorem uB_len : ∀ (k n : Nat), n < 128 ^ (k + 1) → (uB n).length ≤ k + 1
  | 0, n, h => by rw [uB_small (by omega)]; simp
  | k + 1, n, h => by
    by_cases hn : n < 128
    · rw [uB_small hn]; simp
    · rw [uB_big (by omega)]
      have := uB_len k (n / 128) (by rw [Nat.div_lt_iff_lt_mul (by omega), ← Nat.pow_succ]; exact h)
      simp; omega
theorem uB_len10 {n : Nat} (h : n < 18446744073709551616) : (uB n).length ≤ 10 := uB_len 9 n (by omega)
theorem uB_pos (n : Nat) : 0 < (uB n).length := by
  by_cases h : n < 128
  · rw [uB_small h]; simp
  · rw [uB_big (by omega)]; simp

theorem g_ref04_U_ok {n : Nat} (hn : n < 18446744073709551616) {R : Bool × Rws → Prop} (h : R (false, rowsB (uB n))) : (g_ref04_U (n : Int)).run R := by
  unfold g_ref04_U
  refine W.bindI (W.loop_inv (fun s => ∃ (v : Nat) (acc : List Nat), v < 18446744073709551616 ∧ s.1 = (v : Int) ∧ s.2.2 = rowsB acc ∧ acc ++ uB v = uB n) (fun s => s.1.toNat) ?_ ⟨n, [], hn, rfl, rfl, rfl⟩)
  rintro ⟨s1, s2, s3⟩ ⟨v, acc, hv, rfl, rfl, hacc⟩
  have hl := congrArg List.length hacc
  have h10 := uB_len10 hn
  have hp := uB_pos v
  simp only [List.length_append] at hl
  refine W.iteC (fun e => ?_) (fun e => ?_)
  · have e : 128 ≤ v := by have := of_decide_eq_true e; omega
    refine W.needI (by simp only [rowsB_len]; omega) (W.retI ?_)
    have e0 : (v : Int).tdiv 128 = ((v / 128 : Nat) : Int) := rfl
    have e2 : (v : Int).tmod 128 = ((v % 128 : Nat) : Int) := rfl
    refine ⟨⟨v / 128, acc ++ [v % 128 + 128], by omega, ?_, ?_, ?_⟩, ?_⟩
    · show IntKind.u64.wrap ((v : Int).tdiv 128) = _
      rw [e0, wrapu64_in (by omega) (by omega)]
    · show rowsB acc ++ [[I (IntKind.u8.wrap (IntKind.u64.wrap ((v : Int).tmod 128 + 128)))]] = _
      have e1 : IntKind.u8.wrap (IntKind.u64.wrap ((v : Int).tmod 128 + 128)) = ((v % 128 + 128 : Nat) : Int) := by
        rw [e2, wrapu64_in (by omega) (by omega), IntKind.wrap_u8]; omega
      rw [e1, rowsB_app]; rfl
    · rw [List.append_assoc, ← hacc, uB_big e]; rfl
    · show (IntKind.u64.wrap ((v : Int).tdiv 128)).toNat < (v : Int).toNat
      rw [e0, wrapu64_in (by omega) (by omega)]; omega
  · have e : v < 128 := by have := of_decide_eq_false e; omega
    refine W.retI ?_
    refine W.needI (by simp only [rowsB_len]; omega) (W.retI ?_)
    have e1 : IntKind.u8.wrap (v : Int) = (v : Int) := by rw [IntKind.wrap_u8]; omega
    simp only [Bool.and_false, e1]
    rw [← hacc, uB_small e, rowsB_app] at h
    exact h
end Go.Proofs.Ytfekobhcekcniaa.VX
namespace Go.Proofs.Ytfekobhcekcniaa.VX
theorem orU8 (b : BitVec 8) : b ||| 128#8 = BitVec.ofNat 8 (b.toNat % 128 + 128) := by
  revert b; decide
theorem or128 (v : Nat) : ibits BinOp.or IntKind.u8 (IntKind.u8.wrap (v : Int)) 128 = ((v % 128 + 128 : Nat) : Int) := by
  have h1 : IntKind.u8.wrap (v : Int) = ((v % 256 : Nat) : Int) := by rw [IntKind.wrap_u8]; omega
  rw [h1]
  show IntKind.u8.wrap (((BitVec.ofInt 8 ((v % 256 : Nat) : Int) ||| BitVec.ofInt 8 128 : BitVec 8).toNat : Nat) : Int) = _
  have h2 : (BitVec.ofInt 8 ((v % 256 : Nat) : Int)) = BitVec.ofNat 8 v := by
    rw [BitVec.ofInt_natCast]
    apply BitVec.eq_of_toNat_eq
    simp
  have h3 : (BitVec.ofInt 8 128) = 128#8 := rfl
  rw [h2, h3, orU8 (BitVec.ofNat 8 v), IntKind.wrap_u8]
  simp
  omega

theorem g_slices_Grow_ok {n : Nat} (hn : n ≤ 140737488355328) {R : Bool × Rws → Prop} (h : ∀ b, R (b, [])) : (g_slices_Grow___byte_byte__z (n : Int)).run R := by
  unfold g_slices_Grow___byte_byte__z
  have e : IntKind.i64.wrap ((n : Int) - 0) = n := by rw [wrap64_in] <;> omega
  refine W.iteF (by simp) ?_
  rw [e]
  refine W.iteC (fun h1 => ?_) (fun _ => W.retI (h _))
  have h1 := of_decide_eq_true h1
  exact W.needI (by omega) (W.needI (by simp) (W.retI (by simpa using h false)))
theorem g_slices_Concat_ok (b b1 b2 : Bool) (l m : Rws) (hl : l.length + m.length ≤ 140737488355328) {R : Bool × Rws → Prop} (h : ∀ b, R (b, l ++ m)) : (g_slices_Concat___byte_byte_ b [[AV.sl b1 0 l], [AV.sl b2 0 m]]).run R := by
  unfold g_slices_Concat___byte_byte_
  have r0 : rr [[AV.sl b1 0 l], [AV.sl b2 0 m]] 0 0 = l := rfl
  have r1 : rr [[AV.sl b1 0 l], [AV.sl b2 0 m]] 1 0 = m := rfl
  have t1 : (IntKind.i64.wrap ((0 : Int) + 1)).toNat = 1 := by decide
  have t2 : IntKind.i64.wrap ((0 : Int) + 1) = 1 := by decide
  have t3 : IntKind.i64.wrap ((1 : Int) + 1) = 2 := by decide
  have a0 : IntKind.i64.wrap (0 + (l.length : Int)) = (l.length : Int) := by rw [wrap64_in] <;> omega
  have a1 : IntKind.i64.wrap ((l.length : Int) + (m.length : Int)) = ((l.length + m.length : Nat) : Int) := by rw [wrap64_in] <;> omega
  refine W.bindI ?_
  refine W.loop_unroll (W.iteT rfl (W.needI (by simp) ?_))
  simp only [show (0 : Int).toNat = 0 from rfl, r0, a0, t2]
  refine W.iteF (by simp) (W.retI ?_)
  refine W.loop_unroll (W.iteT rfl (W.needI (by simp) ?_))
  simp only [show (1 : Int).toNat = 1 from rfl, r1, a1, t3]
  refine W.iteF (by simp; omega) (W.retI ?_)
  refine W.loop_unroll (W.iteF rfl (W.retI ?_))
  refine W.bindI (g_slices_Grow_ok hl fun b0 => ?_)
  refine W.bindI ?_
  refine W.loop_unroll (W.iteT rfl (W.needI (by simp) ?_))
  simp only [show (0 : Int).toNat = 0 from rfl, r0, t2]
  refine W.needI (by simp; omega) (W.retI ?_)
  refine W.loop_unroll (W.iteT rfl (W.needI (by simp) ?_))
  simp only [show (1 : Int).toNat = 1 from rfl, r1, t3]
  refine W.needI (by simp; omega) (W.retI ?_)
  refine W.loop_unroll (W.iteF rfl (W.retI ?_))
  exact W.retI (by simpa using h _)
theorem g_wire_PutU_ok (b : Bool) (l : Rws) {n : Nat} (hn : n < 18446744073709551616) (hl : l.length + 10 ≤ 140737488355328) {R : Bool × Rws → Prop} (h : R (false, l ++ rowsB (uB n))) : (g_wire_PutU b l (n : Int)).run R := by
  unfold g_wire_PutU
  refine W.bindI (g_slices_Concat_ok _ _ _ l [] (by simp; omega) fun b0 => ?_)
  simp only [List.append_nil]
  refine W.bindI (W.loop_inv (fun s => ∃ (v : Nat) (acc : List Nat), v < 18446744073709551616 ∧ s.1 = (v : Int) ∧ s.2.2 = l ++ rowsB acc ∧ acc ++ uB v = uB n) (fun s => s.1.toNat) ?_ ⟨n, [], hn, rfl, by simp [rowsB], rfl⟩)
  rintro ⟨s1, s2, s3⟩ ⟨v, acc, hv, rfl, rfl, hacc⟩
  have hln := congrArg List.length hacc
  have h10 := uB_len10 hn
  have hp := uB_pos v
  simp only [List.length_append] at hln
  have e0 : (v : Int).fdiv 128 = ((v / 128 : Nat) : Int) := by rw [Int.fdiv_eq_ediv_of_nonneg _ (by omega)]; rfl
  refine W.iteC (fun e => ?_) (fun e => ?_)
  · have e : 128 ≤ v := by have := of_decide_eq_true e; omega
    refine W.needI (by simp only [List.length_append, rowsB_len]; omega) (W.retI ?_)
    refine ⟨⟨v / 128, acc ++ [v % 128 + 128], by omega, e0, ?_, ?_⟩, ?_⟩
    · show l ++ rowsB acc ++ [[I (ibits BinOp.or IntKind.u8 (IntKind.u8.wrap (v : Int)) 128)]] = _
      rw [or128, rowsB_app, List.append_assoc]; rfl
    · rw [List.append_assoc, ← hacc, uB_big e]; rfl
    · show ((v : Int).fdiv 128).toNat < (v : Int).toNat
      rw [e0]; omega
  · have e : v < 128 := by have := of_decide_eq_false e; omega
    refine W.retI ?_
    refine W.needI (by simp only [List.length_append, rowsB_len]; omega) (W.retI ?_)
    have e1 : IntKind.u8.wrap (v : Int) = (v : Int) := by rw [IntKind.wrap_u8]; omega
    simp only [Bool.and_false, e1]
    rw [← hacc, uB_small e, rowsB_app] at h
    rw [List.append_assoc]
    exact h
/-- Whole numbers of either sign, folded. -/
def zz (x : Int) : Nat := if 0 ≤ x then (2 * x).toNat else (-2 * x - 1).toNat
theorem zz_lt {x : Int} (h : -9223372036854775808 ≤ x) (h' : x ≤ 9223372036854775807) : zz x < 18446744073709551616 := by unfold zz; split <;> omega
theorem g_ref04_Fold_ok {x : Int} (h1 : -9223372036854775808 ≤ x) (h2 : x ≤ 9223372036854775807) {R : Int → Prop} (h : R (zz x : Int)) : (g_ref04_Fold x).run R := by
  unfold g_ref04_Fold
  unfold zz at h
  by_cases hx : 0 ≤ x
  · rw [if_pos hx] at h
    refine W.iteT (by simpa using hx) (W.retI ?_)
    rw [wrapu64_in (x := x) (by omega) (by omega), wrapu64_in (by omega) (by omega)]
    rwa [show (((2 * x).toNat : Nat) : Int) = 2 * x by omega] at h
  · rw [if_neg hx] at h
    refine W.iteF (by simpa using hx) (W.retI ?_)
    rw [wrap64_in (x := x + 1) (by omega) (by omega), wrap64_in (x := 0 - (x + 1)) (by omega) (by omega), wrapu64_in (x := 0 - (x + 1)) (by omega) (by omega), wrapu64_in (x := 2 * (0 - (x + 1))) (by omega) (by omega), wrapu64_in (by omega) (by omega)]
    rwa [show (((-2 * x - 1).toNat : Nat) : Int) = 2 * (0 - (x + 1)) + 1 by omega] at h
theorem g_ref04_S_ok {x : Int} (h1 : -9223372036854775808 ≤ x) (h2 : x ≤ 9223372036854775807) {R : Bool × Rws → Prop} (h : R (false, rowsB (uB (zz x)))) : (g_ref04_S x).run R := by
  unfold g_ref04_S
  exact W.bindI (g_ref04_Fold_ok h1 h2 (W.bindI (g_ref04_U_ok (zz_lt h1 h2) (W.retI h))))
theorem xor_zz {x : Int} (h1 : -9223372036854775808 ≤ x) (h2 : x ≤ 9223372036854775807) :
    ibits BinOp.xor IntKind.u64 (IntKind.u64.wrap (IntKind.u64.wrap x * 2)) (IntKind.u64.wrap (x.fdiv 9223372036854775808)) = (zz x : Int) := by
  have hib : ∀ a b : Int, ibits BinOp.xor IntKind.u64 a b = IntKind.u64.wrap (((BitVec.ofInt 64 a ^^^ BitVec.ofInt 64 b : BitVec 64).toNat : Nat) : Int) := fun _ _ => rfl
  rw [hib]
  have hd : x.fdiv 9223372036854775808 = if 0 ≤ x then 0 else -1 := by
    rw [Int.fdiv_eq_ediv_of_nonneg _ (by omega)]
    split <;> omega
  rw [hd]
  unfold zz
  by_cases hx : 0 ≤ x
  · rw [if_pos hx, if_pos hx, wrapu64_in (x := x) (by omega) (by omega), wrapu64_in (x := x * 2) (by omega) (by omega)]
    have e : (BitVec.ofInt 64 (IntKind.u64.wrap 0)) = 0#64 := by decide
    rw [e, BitVec.xor_zero]
    have e2 : (BitVec.ofInt 64 (x * 2)).toNat = (2 * x).toNat := by
      rw [BitVec.toNat_ofInt]; omega
    rw [e2, wrapu64_in (by omega) (by omega)]
  · rw [if_neg hx, if_neg hx]
    have e : (BitVec.ofInt 64 (IntKind.u64.wrap (-1))) = BitVec.allOnes 64 := by decide
    rw [e]
    have e1 : IntKind.u64.wrap (IntKind.u64.wrap x * 2) = 2 * x + 18446744073709551616 := by
      simp only [IntKind.wrap_u64]; omega
    rw [e1]
    have e2 : (BitVec.ofInt 64 (2 * x + 18446744073709551616) ^^^ BitVec.allOnes 64) = ~~~(BitVec.ofInt 64 (2 * x + 18446744073709551616)) := BitVec.xor_allOnes
    rw [e2]
    have e3 : (~~~(BitVec.ofInt 64 (2 * x + 18446744073709551616))).toNat = (-2 * x - 1).toNat := by
      rw [BitVec.toNat_not, BitVec.toNat_ofInt]; omega
    rw [e3, wrapu64_in (by omega) (by omega)]
theorem g_wire_PutS_ok (b : Bool) (l : Rws) {x : Int} (h1 : -9223372036854775808 ≤ x) (h2 : x ≤ 9223372036854775807) (hl : l.length + 10 ≤ 140737488355328) {R : Bool × Rws → Prop} (h : R (false, l ++ rowsB (uB (zz x)))) : (g_wire_PutS b l x).run R := by
  unfold g_wire_PutS
  rw [xor_zz h1 h2]
  exact W.bindI (g_wire_PutU_ok b l (zz_lt h1 h2) hl (W.retI h))
end Go.Proofs.Ytfekobhcekcniaa.VX

set_option linter.unusedVariables false
set_option linter.unusedSimpArgs false
namespace Go.Proofs.Ytfekobhcekcniaa.VX
def cI (r : List AV) (j : Nat) : Int := (r.getD j .dead).toInt
def cR (r : List AV) (j : Nat) : Rws := (r.getD j .dead).toRows
theorem ri_eq (l : Rws) (i j : Nat) : ri l i j = cI (l.getD i []) j := rfl
theorem rr_eq (l : Rws) (i j : Nat) : rr l i j = cR (l.getD i []) j := rfl
/-- A loop that counts. -/
theorem W.loop_for {σ ε : Type} {f : σ → W (σ ⊕ ε)} {R : ε → Prop} (n : Nat) (J : Nat → σ → Prop) (h : ∀ i s, i < n → J i s → (f s).run (W.on (J (i + 1)) R)) (hend : ∀ s, J n s → (f s).run (W.on (fun _ => False) R)) {s : σ} (h0 : J 0 s) : (W.loop f s).run R := by
  have key : ∀ k i s, n - i = k → i ≤ n → J i s → (W.loop f s).run R := by
    intro k
    induction k with
    | zero =>
      intro i s hk hi hJ
      have : i = n := by omega
      subst this
      exact W.loop_unroll ((f s).mono (W.on_mono (fun _ q => q.elim) fun _ => id) (hend s hJ))
    | succ k ih =>
      intro i s hk hi hJ
      exact W.loop_unroll ((f s).mono (W.on_mono (fun s' q => ih (i + 1) s' (by omega) (by omega) q) fun _ => id) (h i s (by omega) hJ))
  exact key n 0 s (by omega) (by omega) h0
def in64 (x : Int) : Prop := -9223372036854775808 ≤ x ∧ x ≤ 9223372036854775807
/-- Numbers that a machine holds. -/
def num (l : Rws) : Prop := ∀ r ∈ l, ∀ j, in64 (cI r j)
theorem num_get {l : Rws} (h : num l) (i j : Nat) : in64 (ri l i j) := by
  rw [ri_eq]
  by_cases hi : i < l.length
  · rw [show l.getD i [] = l[i] by simp [hi]]
    exact h _ (List.getElem_mem hi) j
  · rw [show l.getD i [] = [] by simp [Nat.le_of_not_lt hi]]
    simp [cI, in64, AV.toInt]
def uI (x : Int) : List Nat := uB (IntKind.u64.wrap x).toNat
def spB (r : List AV) : List Nat := uB (zz (cI r 0)) ++ uB (zz (cI r 1))
def chB (r : List AV) : List Nat := uI (cI r 0) ++ uI (cI r 1) ++ (uB (zz (cI r 2)) ++ uB (zz (cI r 3))) ++ (uB (zz (cI r 4)) ++ uB (zz (cI r 5)))
def plB (r : List AV) : List Nat := uI ((cR r 0).length : Int) ++ (cR r 0).flatMap chB
def encB (sp pl : Rws) : List Nat := [83, 87, 67, 49] ++ uI (sp.length : Int) ++ sp.flatMap spB ++ uI (pl.length : Int) ++ pl.flatMap plB
theorem wrapu_nat (x : Int) : ((IntKind.u64.wrap x).toNat : Int) = IntKind.u64.wrap x ∧ (IntKind.u64.wrap x).toNat < 18446744073709551616 := by
  rw [IntKind.wrap_u64]; omega
theorem uI_len (x : Int) : (uI x).length ≤ 10 := uB_len10 (wrapu_nat x).2
theorem zzB_len {x : Int} (h : in64 x) : (uB (zz x)).length ≤ 10 := uB_len10 (zz_lt h.1 h.2)
theorem flat_len {α β : Type} {f : α → List β} {k : Nat} : ∀ {l : List α}, (∀ r ∈ l, (f r).length ≤ k) → (l.flatMap f).length ≤ k * l.length
  | [], _ => by simp
  | r :: l, h => by
    have h1 := h r (List.mem_cons_self ..)
    have h2 := flat_len (f := f) (fun x hx => h x (List.mem_cons_of_mem _ hx))
    simp only [List.flatMap_cons, List.length_append, List.length_cons, Nat.mul_add, Nat.mul_one]
    omega
theorem take_flat {α β : Type} {f : List α → List β} {l : List (List α)} {i : Nat} (h : i < l.length) : (l.take (i + 1)).flatMap f = (l.take i).flatMap f ++ f (l.getD i []) := by
  rw [List.take_succ_eq_append_getElem h, List.flatMap_append]
  simp [h]
theorem num_take {l : Rws} (h : num l) (i : Nat) : num (l.take i) := fun r hr => h r (List.mem_of_mem_take hr)
theorem spB_len {l : Rws} (h : num l) : (l.flatMap spB).length ≤ 20 * l.length := flat_len fun r hr => by
  have h1 := zzB_len (h r hr 0)
  have h2 := zzB_len (h r hr 1)
  simp only [spB, List.length_append]; omega
theorem chB_len {l : Rws} (h : num l) : (l.flatMap chB).length ≤ 60 * l.length := flat_len fun r hr => by
  have h1 := zzB_len (h r hr 2)
  have h2 := zzB_len (h r hr 3)
  have h3 := zzB_len (h r hr 4)
  have h4 := zzB_len (h r hr 5)
  have h5 := uI_len (cI r 0)
  have h6 := uI_len (cI r 1)
  simp only [chB, List.length_append]; omega

theorem PutU_uI (b : Bool) (l : Rws) (x : Int) (hl : l.length + 10 ≤ 140737488355328) {R : Bool × Rws → Prop} (h : R (false, l ++ rowsB (uI x))) : (g_wire_PutU b l (IntKind.u64.wrap x)).run R := by
  obtain ⟨h1, h2⟩ := wrapu_nat x
  rw [← h1]
  exact g_wire_PutU_ok b l h2 hl h
theorem wrap_succ {i : Nat} (h : i ≤ 140737488355328) : IntKind.i64.wrap ((i : Int) + 1) = ((i + 1 : Nat) : Int) := by rw [wrap64_in] <;> omega
theorem g_seal_put_ok (b : Bool) (l : Rws) (b' : Bool) (acc : Rws) (hl : num l) (hn : l.length ≤ 65) (hacc : acc.length ≤ 100000000) {R : Bool × Rws → Prop} (h : ∀ c, R (c, acc ++ rowsB (l.flatMap spB))) : (g_seal_put_o b l b' acc).run R := by
  unfold g_seal_put_o
  refine W.bindI (W.loop_for l.length (fun i s => s.1 = (i : Int) ∧ s.2.2 = acc ++ rowsB ((l.take i).flatMap spB)) ?_ ?_ ⟨rfl, by simp [rowsB]⟩)
  · rintro i ⟨s1, s2, s3⟩ hi ⟨rfl, rfl⟩
    refine W.iteT (by simpa using hi) (W.needI (by constructor <;> omega) ?_)
    have q0 := num_get hl i 0
    have q1 := num_get hl i 1
    simp only [Int.toNat_natCast]
    refine W.bindI (g_wire_PutS_ok _ _ q0.1 q0.2 (by simp) (W.bindI (g_wire_PutS_ok _ _ q1.1 q1.2 ?_ ?_)))
    · have := zzB_len q0
      simp only [List.nil_append, rowsB_len]; omega
    · have h0 := spB_len (num_take hl i)
      have h1 := zzB_len q0
      have h2 := zzB_len q1
      have h3 : (l.take i).length ≤ 65 := by simp; omega
      refine W.needI ?_ (W.retI ⟨wrap_succ (by omega), ?_⟩)
      · simp only [List.nil_append, List.length_append, rowsB_len]
        omega
      · show acc ++ rowsB ((l.take i).flatMap spB) ++ ([] ++ rowsB (uB (zz (ri l i 0))) ++ rowsB (uB (zz (ri l i 1)))) = _
        rw [take_flat hi, rowsB_app, List.nil_append, ← rowsB_app, List.append_assoc]
        rfl
  · rintro ⟨s1, s2, s3⟩ ⟨rfl, rfl⟩
    refine W.iteF (by simp) (W.retI (W.retI ?_))
    simpa using h _
end Go.Proofs.Ytfekobhcekcniaa.VX

set_option linter.unusedVariables false
set_option linter.unusedSimpArgs false
namespace Go.Proofs.Ytfekobhcekcniaa.VX
def badCh (r : List AV) : Bool := !(decide (0 ≤ cI r 0 ∧ cI r 0 ≤ 2147483647 ∧ 0 ≤ cI r 1 ∧ cI r 1 ≤ 2147483647))
def hdGo : Rws → Nat → Int × Int × Int
  | [], _ => (0, 0, 0)
  | r :: rest, i => if 1024 < (cR r 0).length then (42, (i + 1 : Nat), 0) else match (cR r 0).findIdx? badCh with
    | some j => (2, (i + 1 : Nat), (j + 1 : Nat))
    | none => hdGo rest (i + 1)
def hd (sp pl : Rws) : Int × Int × Int := if 65 < sp.length ∨ 64 < pl.length then (42, 0, 0) else hdGo pl 0
theorem hdGo_cons (r : List AV) (rest : Rws) (i : Nat) : hdGo (r :: rest) i = if 1024 < (cR r 0).length then (42, ((i + 1 : Nat) : Int), 0) else match (cR r 0).findIdx? badCh with
    | some j => (2, ((i + 1 : Nat) : Int), ((j + 1 : Nat) : Int))
    | none => hdGo rest (i + 1) := rfl
theorem hdGo_ok : ∀ {pl : Rws} {i : Nat}, (hdGo pl i).1 = 0 → hdGo pl i = (0, 0, 0) ∧ ∀ r ∈ pl, (cR r 0).length ≤ 1024 ∧ ∀ c ∈ cR r 0, badCh c = false
  | [], _, _ => ⟨rfl, by simp⟩
  | r :: rest, i, h => by
    unfold hdGo at h ⊢
    by_cases h1 : 1024 < (cR r 0).length
    · rw [if_pos h1] at h; cases h
    · rw [if_neg h1] at h ⊢
      cases hf : (cR r 0).findIdx? badCh with
      | some j => rw [hf] at h; cases h
      | none =>
        rw [hf] at h
        obtain ⟨q1, q2⟩ := hdGo_ok h
        refine ⟨q1, fun x hx => ?_⟩
        rcases List.mem_cons.1 hx with rfl | hx
        · exact ⟨by omega, List.findIdx?_eq_none_iff.1 hf⟩
        · exact q2 x hx
theorem hd_ok {sp pl : Rws} (h : (hd sp pl).1 = 0) : hd sp pl = (0, 0, 0) ∧ sp.length ≤ 65 ∧ pl.length ≤ 64 ∧ ∀ r ∈ pl, (cR r 0).length ≤ 1024 ∧ ∀ c ∈ cR r 0, badCh c = false := by
  unfold hd at h ⊢
  by_cases h1 : 65 < sp.length ∨ 64 < pl.length
  · rw [if_pos h1] at h; cases h
  · rw [if_neg h1] at h ⊢
    obtain ⟨q1, q2⟩ := hdGo_ok h
    exact ⟨q1, by omega, by omega, q2⟩
theorem imin_f (a b : Int) : imin false a b = min a b := by simp only [imin]; first | rfl | (simp; omega) | (split <;> omega)
theorem imin_t (a b : Int) : imin true a b = max a b := by simp only [imin]; first | rfl | (simp; omega) | (split <;> omega)
theorem bad_imin (r : List AV) : (decide (imin false (cI r 0) (cI r 1) < 0) || decide (2147483647 < imin true (cI r 0) (cI r 1))) = badCh r := by
  rw [imin_f, imin_t]
  unfold badCh
  rw [Bool.eq_iff_iff]
  simp
  omega
theorem find_some {l : Rws} {j : Nat} (hj : j < l.length) (hb : badCh (l.getD j []) = true) (hlt : ∀ i, i < j → badCh (l.getD i []) = false) : l.findIdx? badCh = some j := by
  rw [List.findIdx?_eq_some_iff_getElem]
  refine ⟨hj, ?_, fun i hi => ?_⟩
  · simpa [hj] using hb
  · have := hlt i hi
    have hi' : i < l.length := by omega
    simpa [hi'] using this
theorem find_none {l : Rws} (hlt : ∀ i, i < l.length → badCh (l.getD i []) = false) : l.findIdx? badCh = none := by
  rw [List.findIdx?_eq_none_iff]
  intro x hx
  obtain ⟨i, hi, rfl⟩ := List.mem_iff_getElem.1 hx
  have := hlt i hi
  simpa [hi] using this
theorem drop_get {l : Rws} {i : Nat} (h : i < l.length) : l.drop i = l.getD i [] :: l.drop (i + 1) := by
  rw [List.drop_eq_getElem_cons h]; simp [h]

theorem g_seal_check_ok (b : Bool) (sp : Rws) (b' : Bool) (pl : Rws) {R : Int × Int × Int → Prop} (h : R (hd sp pl)) : (g_seal_check b sp b' pl).run R := by
  unfold g_seal_check
  unfold hd at h
  refine W.iteC (fun e => ?_) (fun e => ?_)
  · rw [if_pos (by simp at e; omega)] at h
    exact W.retI h
  · have e : ¬ (65 < sp.length ∨ 64 < pl.length) := by simp at e; omega
    rw [if_neg e] at h
    refine W.bindI (W.loop_for pl.length (fun i s => s = (i : Int) ∧ hdGo (pl.drop i) i = hdGo pl 0) ?_ ?_ ⟨rfl, rfl⟩)
    · rintro i s hi ⟨rfl, hgo⟩
      rw [drop_get hi, hdGo_cons] at hgo
      refine W.iteT (by simpa using hi) (W.needI (by constructor <;> omega) ?_)
      simp only [Int.toNat_natCast, rr_eq]
      refine W.iteC (fun e1 => ?_) (fun e1 => ?_)
      · have e1 : 1024 < (cR (pl.getD i []) 0).length := by have := of_decide_eq_true e1; omega
        rw [if_pos e1] at hgo
        rw [← hgo] at h
        refine W.retI (W.retI ?_)
        rw [wrap_succ (by omega)]
        exact h
      · have e1 : ¬ 1024 < (cR (pl.getD i []) 0).length := by have := of_decide_eq_false e1; omega
        rw [if_neg e1] at hgo
        refine W.bindI (W.loop_for (cR (pl.getD i []) 0).length (fun j s => s = (j : Int) ∧ ∀ k, k < j → badCh ((cR (pl.getD i []) 0).getD k []) = false) ?_ ?_ ⟨rfl, fun k hk => absurd hk (Nat.not_lt_zero _)⟩)
        · rintro j s hj ⟨rfl, hlt⟩
          refine W.iteT (by simpa using hj) (W.needI (by constructor <;> omega) ?_)
          simp only [Int.toNat_natCast, ri_eq, bad_imin]
          refine W.iteC (fun e2 => ?_) (fun e2 => ?_)
          · replace e2 := (bad_imin _).symm.trans e2
            refine W.retI (W.retI (W.retI ?_))
            rw [find_some hj e2 hlt] at hgo
            rw [← hgo] at h
            simp only [wrap_succ (show i ≤ 140737488355328 by omega), wrap_succ (show j ≤ 140737488355328 by omega)]
            exact h
          · replace e2 := (bad_imin _).symm.trans e2
            refine W.retI ⟨wrap_succ (by omega), fun k hk => ?_⟩
            by_cases hkj : k = j
            · subst hkj; exact e2
            · exact hlt k (by omega)
        · rintro s ⟨rfl, hlt⟩
          refine W.iteF (by simp) (W.retI (W.retI ?_))
          rw [find_none hlt] at hgo
          exact ⟨wrap_succ (by omega), hgo⟩
    · rintro s ⟨rfl, hgo⟩
      refine W.iteF (by simp) (W.retI (W.retI ?_))
      rw [List.drop_length] at hgo
      rw [← hgo] at h
      exact h
end Go.Proofs.Ytfekobhcekcniaa.VX

set_option linter.unusedVariables false
set_option linter.unusedSimpArgs false
namespace Go.Proofs.Ytfekobhcekcniaa.VX
/-- A certificate's lists, within what is encoded. -/
structure Fine (sp pl : Rws) : Prop where
  a : sp.length ≤ 65
  b : pl.length ≤ 64
  c : ∀ r ∈ pl, (cR r 0).length ≤ 1024
  sp : num sp
  pl : ∀ r ∈ pl, num (cR r 0)
theorem Fine.get {sp pl : Rws} (h : Fine sp pl) {i : Nat} (hi : i < pl.length) : (cR (pl.getD i []) 0).length ≤ 1024 ∧ num (cR (pl.getD i []) 0) := by
  have hm : pl.getD i [] ∈ pl := by
    rw [show pl.getD i [] = pl[i] by simp [hi]]
    exact List.getElem_mem hi
  exact ⟨h.c _ hm, h.pl _ hm⟩
theorem Fine.plB_len {sp pl : Rws} (h : Fine sp pl) (i : Nat) : ((pl.take i).flatMap plB).length ≤ 61450 * 64 := by
  have h1 : ((pl.take i).flatMap plB).length ≤ 61450 * (pl.take i).length := flat_len fun r hr => by
    have hr := List.mem_of_mem_take hr
    have h2 := chB_len (h.pl r hr)
    have h3 := h.c r hr
    have h4 := uI_len ((cR r 0).length : Int)
    simp only [plB, List.length_append]; omega
  have h2 : (pl.take i).length ≤ 64 := by have := h.b; simp; omega
  omega
/-- What stands before the channels. -/
def preB (sp pl : Rws) : List Nat := [83, 87, 67, 49] ++ uI (sp.length : Int) ++ sp.flatMap spB ++ uI (pl.length : Int)
theorem preB_len {sp pl : Rws} (h : Fine sp pl) : (preB sp pl).length ≤ 1324 := by
  have h1 := uI_len (sp.length : Int)
  have h2 := uI_len (pl.length : Int)
  have h3 := spB_len h.sp
  have h4 := h.a
  simp only [preB, List.length_append, List.length_cons, List.length_nil]; omega
theorem g_seal_Encode_ok (b b' : Bool) (sp pl : Rws) (h0 : (hd sp pl).1 = 0 → Fine sp pl) {R : Int × Int × Int × Bool × Rws → Prop}
    (h : (hd sp pl).1 ≠ 0 → R ((hd sp pl).1, (hd sp pl).2.1, (hd sp pl).2.2, true, [])) (h' : (hd sp pl).1 = 0 → ∀ c, R (0, 0, 0, c, rowsB (encB sp pl))) : (g_seal_Encode b sp b' pl).run R := by
  unfold g_seal_Encode
  refine W.bindI (g_seal_check_ok _ _ _ _ ?_)
  refine W.iteC (fun e => W.retI (h (by simpa using e))) (fun e => ?_)
  have e : (hd sp pl).1 = 0 := by simpa using e
  have hF := h0 e
  replace h' := h' e
  have hA := hF.a
  have hB := hF.b
  have l1 := uI_len (sp.length : Int)
  have l2 := uI_len (pl.length : Int)
  have l3 := spB_len hF.sp
  have lp := preB_len hF
  refine W.bindI (PutU_uI _ _ _ (by simp) ?_)
  refine W.bindI (g_seal_put_ok _ _ _ _ hF.sp hF.a (by simp [rowsB_len]; omega) fun c => ?_)
  refine W.bindI (PutU_uI _ _ _ (by simp only [List.length_append, rowsB_len, List.length_cons, List.length_nil]; omega) ?_)
  have e0 : [[I 83], [I 87], [I 67], [I 49]] ++ rowsB (uI (sp.length : Int)) ++ rowsB (sp.flatMap spB) ++ rowsB (uI (pl.length : Int)) = rowsB (preB sp pl) := by
    simp only [preB, rowsB_app]; rfl
  refine W.bindI (W.loop_for pl.length (fun i s => s.1 = (i : Int) ∧ s.2.2 = rowsB (preB sp pl ++ (pl.take i).flatMap plB)) ?_ ?_ ⟨rfl, by simpa using e0⟩)
  · rintro i ⟨s1, s2, s3⟩ hi ⟨rfl, rfl⟩
    obtain ⟨hc, hn⟩ := hF.get hi
    have lq := hF.plB_len i
    refine W.iteT (by simpa using hi) (W.needI (by constructor <;> omega) ?_)
    simp only [Int.toNat_natCast, rr_eq]
    have lu := uI_len ((cR (pl.getD i []) 0).length : Int)
    refine W.bindI (PutU_uI _ _ _ (by simp only [rowsB_len, List.length_append]; omega) ?_)
    refine W.bindI (W.loop_for (cR (pl.getD i []) 0).length (fun j s => s.1 = (j : Int) ∧ s.2.2 = rowsB (preB sp pl ++ (pl.take i).flatMap plB ++ uI ((cR (pl.getD i []) 0).length : Int) ++ ((cR (pl.getD i []) 0).take j).flatMap chB)) ?_ ?_ ⟨rfl, by simp [rowsB_app]⟩)
    · rintro j ⟨s1, s2, s3⟩ hj ⟨rfl, rfl⟩
      refine W.iteT (by simpa using hj) (W.needI (by constructor <;> omega) ?_)
      simp only [Int.toNat_natCast, ri_eq]
      have lc := chB_len (num_take hn j)
      have lj : ((cR (pl.getD i []) 0).take j).length ≤ 1024 := by simp; omega
      have m0 := uI_len (cI ((cR (pl.getD i []) 0).getD j []) 0)
      have m1 := uI_len (cI ((cR (pl.getD i []) 0).getD j []) 1)
      have k2 := num_get hn j 2
      have k3 := num_get hn j 3
      have k4 := num_get hn j 4
      have k5 := num_get hn j 5
      refine W.bindI (PutU_uI _ _ _ (by simp) (W.bindI (PutU_uI _ _ _ (by simp only [List.nil_append, rowsB_len]; omega) ?_)))
      refine W.needI (by simp only [List.nil_append, rowsB_len, List.length_append]; omega) ?_
      refine W.bindI (g_seal_put_ok _ _ _ _ (fun r hr k => ?_) (by simp) (by simp only [List.nil_append, rowsB_len, List.length_append]; omega) fun c => ?_)
      · rcases List.mem_cons.1 hr with rfl | hr
        · match k with
          | 0 => exact k2
          | 1 => exact k3
          | k + 2 => simp [cI, in64, AV.toInt]
        · rcases List.mem_cons.1 hr with rfl | hr
          · match k with
            | 0 => exact k4
            | 1 => exact k5
            | k + 2 => simp [cI, in64, AV.toInt]
          · cases hr
      · refine W.retI ⟨wrap_succ (by omega), ?_⟩
        show _ ++ ([] ++ rowsB (uI (cI ((cR (pl.getD i []) 0).getD j []) 0)) ++ rowsB (uI (cI ((cR (pl.getD i []) 0).getD j []) 1))) ++ rowsB (uB (zz (cI ((cR (pl.getD i []) 0).getD j []) 2)) ++ uB (zz (cI ((cR (pl.getD i []) 0).getD j []) 3)) ++ ((uB (zz (cI ((cR (pl.getD i []) 0).getD j []) 4)) ++ uB (zz (cI ((cR (pl.getD i []) 0).getD j []) 5))) ++ [])) = _
        rw [take_flat hj]
        simp only [rowsB_app, chB, List.nil_append, List.append_nil, List.append_assoc]
    · rintro ⟨s1, s2, s3⟩ ⟨rfl, rfl⟩
      refine W.iteF (by simp) (W.retI (W.retI ⟨wrap_succ (by omega), ?_⟩))
      show rowsB _ = _
      rw [take_flat hi, List.take_length]
      simp only [plB, rowsB_app, List.append_assoc]
  · rintro ⟨s1, s2, s3⟩ ⟨rfl, rfl⟩
    refine W.iteF (by simp) (W.retI (W.retI ?_))
    rw [List.take_length]
    exact h' s2
theorem count_ok {x : Int} {b : Bool} {acc : Rws} (hl : acc.length + 10 ≤ 140737488355328) {R : Bool × Rws → Prop} (h : ∀ c, R (c, acc ++ rowsB (uI x))) : (g_ref16_count_o x b acc).run R := by
  unfold g_ref16_count_o
  obtain ⟨h1, h2⟩ := wrapu_nat x
  have h3 := uI_len x
  rw [← h1]
  exact W.bindI (g_ref04_U_ok h2 (W.needI (by have : (rowsB (uB (IntKind.u64.wrap x).toNat)).length ≤ 10 := by { rw [rowsB_len]; exact h3 }; simp only; omega) (W.retI (h _))))
theorem ends_ok {x y : Int} (hx : in64 x) (hy : in64 y) {b : Bool} {acc : Rws} (hl : acc.length + 20 ≤ 140737488355328) {R : Bool × Rws → Prop} (h : ∀ c, R (c, acc ++ rowsB (uB (zz x) ++ uB (zz y)))) : (g_ref16_ends_o x y b acc).run R := by
  unfold g_ref16_ends_o
  have h1 := zzB_len hx
  have h2 := zzB_len hy
  refine W.bindI (g_ref04_S_ok hx.1 hx.2 (W.needI (by simp only [rowsB_len]; omega) (W.bindI (g_ref04_S_ok hy.1 hy.2 (W.needI (by simp only [rowsB_len, List.length_append]; omega) (W.retI ?_))))))
  have := h (b && List.isEmpty (rowsB (uB (zz x))) && List.isEmpty (rowsB (uB (zz y))))
  rw [rowsB_app, ← List.append_assoc] at this
  exact this
theorem g_ref16_Bytes_ok (b b' : Bool) (sp pl : Rws) (hF : Fine sp pl) {R : Bool × Rws → Prop} (h' : ∀ c, R (c, rowsB (encB sp pl))) : (g_ref16_Bytes b sp b' pl).run R := by
  unfold g_ref16_Bytes
  have hA := hF.a
  have hB := hF.b
  have l1 := uI_len (sp.length : Int)
  have l2 := uI_len (pl.length : Int)
  have lp := preB_len hF
  refine W.bindI (count_ok (by simp) fun c => ?_)
  refine W.bindI (W.loop_for sp.length (fun i s => s.1 = (i : Int) ∧ s.2.2 = [[I 83], [I 87], [I 67], [I 49]] ++ rowsB (uI (sp.length : Int)) ++ rowsB ((sp.take i).flatMap spB)) ?_ ?_ ⟨rfl, by simp [rowsB]⟩)
  · rintro i ⟨s1, s2, s3⟩ hi ⟨rfl, rfl⟩
    refine W.iteT (by simpa using hi) (W.needI (by constructor <;> omega) ?_)
    have q0 := num_get hF.sp i 0
    have q1 := num_get hF.sp i 1
    have h0 := spB_len (num_take hF.sp i)
    have h3 : (sp.take i).length ≤ 65 := by simp; omega
    simp only [Int.toNat_natCast]
    refine W.bindI (ends_ok q0 q1 (by simp only [List.length_append, rowsB_len, List.length_cons, List.length_nil]; omega) fun c => W.retI ⟨wrap_succ (by omega), ?_⟩)
    show _ ++ rowsB (uB (zz (ri sp i 0)) ++ uB (zz (ri sp i 1))) = _
    rw [take_flat hi, rowsB_app (List.flatMap _ _), List.append_assoc]
    rfl
  · rintro ⟨s1, s2, s3⟩ ⟨rfl, rfl⟩
    refine W.iteF (by simp) (W.retI ?_)
    rw [List.take_length]
    have l3 := spB_len hF.sp
    refine W.bindI (count_ok (by simp only [List.length_append, rowsB_len, List.length_cons, List.length_nil]; omega) fun c => ?_)
    have e0 : [[I 83], [I 87], [I 67], [I 49]] ++ rowsB (uI (sp.length : Int)) ++ rowsB (sp.flatMap spB) ++ rowsB (uI (pl.length : Int)) = rowsB (preB sp pl) := by
      simp only [preB, rowsB_app]; rfl
    refine W.bindI (W.loop_for pl.length (fun i s => s.1 = (i : Int) ∧ s.2.2 = rowsB (preB sp pl ++ (pl.take i).flatMap plB)) ?_ ?_ ⟨rfl, by simpa using e0⟩)
    · rintro i ⟨s1, s2, s3⟩ hi ⟨rfl, rfl⟩
      obtain ⟨hc, hn⟩ := hF.get hi
      have lq := hF.plB_len i
      refine W.iteT (by simpa using hi) (W.needI (by constructor <;> omega) ?_)
      simp only [Int.toNat_natCast, rr_eq]
      have lu := uI_len ((cR (pl.getD i []) 0).length : Int)
      refine W.bindI (count_ok (by simp only [rowsB_len, List.length_append]; omega) fun c => ?_)
      refine W.bindI (W.loop_for (cR (pl.getD i []) 0).length (fun j s => s.1 = (j : Int) ∧ s.2.2 = rowsB (preB sp pl ++ (pl.take i).flatMap plB ++ uI ((cR (pl.getD i []) 0).length : Int) ++ ((cR (pl.getD i []) 0).take j).flatMap chB)) ?_ ?_ ⟨rfl, by simp [rowsB_app]⟩)
      · rintro j ⟨s1, s2, s3⟩ hj ⟨rfl, rfl⟩
        refine W.iteT (by simpa using hj) (W.needI (by constructor <;> omega) ?_)
        simp only [Int.toNat_natCast, ri_eq]
        have lc := chB_len (num_take hn j)
        have lj : ((cR (pl.getD i []) 0).take j).length ≤ 1024 := by simp; omega
        have m0 := uI_len (cI ((cR (pl.getD i []) 0).getD j []) 0)
        have m1 := uI_len (cI ((cR (pl.getD i []) 0).getD j []) 1)
        have k2 := num_get hn j 2
        have k3 := num_get hn j 3
        have k4 := num_get hn j 4
        have k5 := num_get hn j 5
        have z2 := zzB_len k2
        have z3 := zzB_len k3
        simp only [ri_eq] at k2 k3 k4 k5 z2 z3
        refine W.bindI (count_ok (by simp only [rowsB_len, List.length_append]; omega) fun c1 => W.bindI (count_ok (by simp only [rowsB_len, List.length_append]; omega) fun c2 => ?_))
        refine W.bindI (ends_ok k2 k3 (by simp only [rowsB_len, List.length_append]; omega) fun c3 => W.bindI (ends_ok k4 k5 (by simp only [rowsB_len, List.length_append]; omega) fun c4 => W.retI ⟨wrap_succ (by omega), ?_⟩))
        dsimp only
        rw [take_flat hj]
        simp only [rowsB_app, chB, List.append_assoc]
      · rintro ⟨s1, s2, s3⟩ ⟨rfl, rfl⟩
        refine W.iteF (by simp) (W.retI (W.retI ⟨wrap_succ (by omega), ?_⟩))
        show rowsB _ = _
        rw [take_flat hi, List.take_length]
        simp only [plB, rowsB_app, List.append_assoc]
    · rintro ⟨s1, s2, s3⟩ ⟨rfl, rfl⟩
      refine W.iteF (by simp) (W.retI (W.retI ?_))
      rw [List.take_length]
      exact h' s2
end Go.Proofs.Ytfekobhcekcniaa.VX

set_option linter.unusedVariables false
set_option linter.unusedSimpArgs false
set_option maxRecDepth 100000
set_option maxHeartbeats 0
namespace Go.Proofs.Ytfekobhcekcniaa.VX
theorem XSplit.tt' {b : Bool} {x y : Prop} (h : b = true) (h' : x) : XSplit b x y := ⟨fun _ => h', fun e => by rw [h] at e; cases e⟩
theorem XSplit.ff' {b : Bool} {x y : Prop} (h : b = false) (h' : y) : XSplit b x y := ⟨fun e => (by rw [h] at e; cases e), fun _ => h'⟩
theorem loop_go {σ ε : Type} {f : σ → W (σ ⊕ ε)} {s : σ} {R : ε → Prop} (h : (f s).run (W.on (fun s' => (W.loop f s').run R) R)) : (W.loop f s).pr R := W.loop_unroll h
attribute [local irreducible] W.loop
theorem fixed_ok : g_law16_fixed.run (fun b => b = true) := by
  iterate 2500 (all_goals ((conv => whnf); first | with_reducible exact rfl | with_reducible refine XNeed.mk (of_decide_eq_true (by decide +kernel)) ?_ | with_reducible refine XSplit.tt' (by decide +kernel) ?_ | with_reducible refine XSplit.ff' (by decide +kernel) ?_ | refine loop_go ?_ | decide +kernel))

end Go.Proofs.Ytfekobhcekcniaa.VX

set_option linter.unusedVariables false
set_option linter.unusedSimpArgs false
namespace Go.Proofs.Ytfekobhcekcniaa.VX
theorem g_ref16_whole_ok (x : Int) {R : Bool → Prop} (h : R (decide (0 ≤ x ∧ x ≤ 2147483647))) : (g_ref16_whole x).run R := by
  unfold g_ref16_whole
  refine W.retI ?_
  rwa [Bool.decide_and] at h
theorem g_ref16_Encode_ok (b b' : Bool) (sp pl : Rws) (h0 : (hd sp pl).1 = 0 → Fine sp pl) {R : Int × Int × Int × Bool × Rws → Prop}
    (h : (hd sp pl).1 ≠ 0 → R ((hd sp pl).1, (hd sp pl).2.1, (hd sp pl).2.2, true, [])) (h' : (hd sp pl).1 = 0 → ∀ c, R (0, 0, 0, c, rowsB (encB sp pl))) : (g_ref16_Encode b sp b' pl).run R := by
  unfold g_ref16_Encode
  refine W.iteC (fun e => ?_) (fun e => ?_)
  · have e : 65 < sp.length ∨ 64 < pl.length := by simp at e; omega
    have e1 : hd sp pl = (42, 0, 0) := by unfold hd; rw [if_pos e]
    rw [e1] at h
    exact W.retI (h (by decide))
  · have e : ¬ (65 < sp.length ∨ 64 < pl.length) := by simp at e; omega
    have e1 : hd sp pl = hdGo pl 0 := by unfold hd; rw [if_neg e]
    rw [e1] at h h' h0
    refine W.bindI (W.loop_for pl.length (fun i s => s = (i : Int) ∧ hdGo (pl.drop i) i = hdGo pl 0) ?_ ?_ ⟨rfl, rfl⟩)
    · rintro i s hi ⟨rfl, hgo⟩
      rw [drop_get hi, hdGo_cons] at hgo
      refine W.iteT (by simpa using hi) (W.needI (by constructor <;> omega) ?_)
      simp only [Int.toNat_natCast, rr_eq]
      refine W.iteC (fun e1 => ?_) (fun e1 => ?_)
      · have e1 : 1024 < (cR (pl.getD i []) 0).length := by have := of_decide_eq_true e1; omega
        rw [if_pos e1] at hgo
        rw [← hgo] at h
        refine W.retI (W.retI ?_)
        rw [wrap_succ (by omega)]
        exact h (show (42 : Int) ≠ 0 by decide)
      · have e1 : ¬ 1024 < (cR (pl.getD i []) 0).length := by have := of_decide_eq_false e1; omega
        rw [if_neg e1] at hgo
        refine W.bindI (W.loop_for (cR (pl.getD i []) 0).length (fun j s => s = (j : Int) ∧ ∀ k, k < j → badCh ((cR (pl.getD i []) 0).getD k []) = false) ?_ ?_ ⟨rfl, fun k hk => absurd hk (Nat.not_lt_zero _)⟩)
        · rintro j s hj ⟨rfl, hlt⟩
          refine W.iteT (by simpa using hj) (W.needI (by constructor <;> omega) ?_)
          simp only [Int.toNat_natCast, ri_eq]
          refine W.bindI (W.mono (R := fun v4 : Bool × Bool × Bool × Bool => v4.2.2.2 = badCh ((cR (pl.getD i []) 0).getD j [])) _ (fun v4 hv4 => ?_) ?_)
          case refine_2 =>
            refine W.bindI (g_ref16_whole_ok _ (W.iteC (fun e2 => W.retI ?_) (fun e2 => W.bindI (g_ref16_whole_ok _ (W.retI ?_)))))
            · simp only [Bool.not_eq_true', decide_eq_false_iff_not] at e2
              simp only [badCh]
              symm
              simp only [Bool.not_eq_true', decide_eq_false_iff_not]
              omega
            · simp only [Bool.not_eq_false', decide_eq_true_eq] at e2
              simp only [badCh]
              congr 1
              rw [decide_eq_decide]
              omega
          case refine_1 =>
            rw [hv4]
            refine W.iteC (fun e2 => ?_) (fun e2 => ?_)
            · refine W.retI (W.retI (W.retI ?_))
              rw [find_some hj e2 hlt] at hgo
              rw [← hgo] at h
              simp only [wrap_succ (show i ≤ 140737488355328 by omega), wrap_succ (show j ≤ 140737488355328 by omega)]
              exact h (show (2 : Int) ≠ 0 by decide)
            · refine W.retI ⟨wrap_succ (by omega), fun k hk => ?_⟩
              by_cases hkj : k = j
              · subst hkj; exact e2
              · exact hlt k (by omega)
        · rintro s ⟨rfl, hlt⟩
          refine W.iteF (by simp) (W.retI (W.retI ?_))
          rw [find_none hlt] at hgo
          exact ⟨wrap_succ (by omega), hgo⟩
    · rintro s ⟨rfl, hgo⟩
      refine W.iteF (by simp) (W.retI ?_)
      rw [List.drop_length] at hgo
      have hz : (hdGo pl 0).1 = 0 := by rw [← hgo]; rfl
      exact W.bindI (g_ref16_Bytes_ok _ _ _ _ (h0 hz) fun c => W.retI (h' hz c))

theorem g_law16_same_ok (b b' : Bool) (l : Rws) (hl : l.length ≤ 140737488355328) {R : Bool → Prop} (h : R true) : (g_law16_same b l b' l).run R := by
  unfold g_law16_same
  refine W.iteF (by simp) (W.bindI (W.loop_for l.length (fun i s => s = (i : Int)) ?_ ?_ rfl))
  · rintro i s hi rfl
    refine W.iteT (by simpa using hi) (W.needI (by constructor <;> omega) (W.needI (by constructor <;> omega) (W.iteF (by simp) (W.retI (wrap_succ (by omega))))))
  · rintro s rfl
    exact W.iteF (by simp) (W.retI (W.retI h))
/-- Lists of plans that hold the same channels. -/
def eqPl (pl pl' : Rws) : Prop := pl.length = pl'.length ∧ ∀ i, i < pl.length → cR (pl.getD i []) 0 = cR (pl'.getD i []) 0
theorem g_ref15_Same_ok (a0 a2 a4 a6 : Bool) (sp pl pl' : Rws) (hsp : sp.length ≤ 140737488355328) (hpl : pl.length ≤ 140737488355328) (hpn : ∀ i, (cR (pl.getD i []) 0).length ≤ 140737488355328) (he : eqPl pl pl') {R : Bool → Prop} (h : R true) : (g_ref15_Same a0 sp a2 pl a4 sp a6 pl').run R := by
  unfold g_ref15_Same
  refine W.iteF (by simp [he.1]) (W.bindI (W.loop_for sp.length (fun i s => s = (i : Int)) ?_ ?_ rfl))
  · rintro i s hi rfl
    refine W.iteT (by simpa using hi) (W.needI (by constructor <;> omega) (W.needI (by constructor <;> omega) (W.iteF (by simp) (W.retI (wrap_succ (by omega))))))
  · rintro s rfl
    refine W.iteF (by simp) (W.retI (W.bindI (W.loop_for pl.length (fun i s => s = (i : Int)) ?_ ?_ rfl)))
    · rintro i s hi rfl
      have hl := he.1
      refine W.iteT (by simpa using hi) (W.needI (by constructor <;> omega) (W.needI (by constructor <;> omega) ?_))
      simp only [Int.toNat_natCast, rr_eq, ← he.2 i hi]
      refine W.iteF (by simp) (W.needI (by constructor <;> omega) (W.bindI (W.loop_for (cR (pl.getD i []) 0).length (fun i s => s = (i : Int)) ?_ ?_ rfl)))
      · rintro j s hj rfl
        have := hpn i
        refine W.iteT (by simpa using hj) (W.needI (by constructor <;> omega) (W.needI (by constructor <;> omega) (W.needI (by constructor <;> omega) (W.needI (by constructor <;> omega) ?_))))
        exact W.iteF (by simp) (W.retI (wrap_succ (by omega)))
      · rintro s rfl
        exact W.iteF (by simp) (W.retI (W.retI (wrap_succ (by omega))))
    · rintro s rfl
      exact W.iteF (by simp) (W.retI (W.retI h))
theorem g_ref15_Copy_ok (a0 a2 : Bool) (sp pl : Rws) (hsp : sp.length * 16 ≤ 140737488355328) (hpl : pl.length * 24 ≤ 140737488355328) (hpn : ∀ i, (cR (pl.getD i []) 0).length * 48 ≤ 140737488355328) {R : Bool × Rws × Bool × Rws → Prop} (h : ∀ c pl', eqPl pl pl' → R (false, sp, c, pl')) : (g_ref15_Copy a0 sp a2 pl).run R := by
  unfold g_ref15_Copy
  refine W.bindI (W.loop_for pl.length (fun i s => s.1 = (i : Int) ∧ s.2.2 = (pl.take i).map fun r => [AV.sl false 0 (cR r 0)]) ?_ ?_ ⟨rfl, rfl⟩)
  · rintro i ⟨s1, s2, s3⟩ hi ⟨rfl, rfl⟩
    have := hpn i
    refine W.iteT (by simpa using hi) (W.needI (by constructor <;> omega) ?_)
    simp only [Int.toNat_natCast, rr_eq]
    refine W.needI (by omega) (W.needI (by simp only [List.length_map, List.length_take]; omega) (W.retI ⟨wrap_succ (by omega), ?_⟩))
    rw [List.take_succ_eq_append_getElem hi, List.map_append]
    simp [hi]
  · rintro ⟨s1, s2, s3⟩ ⟨rfl, rfl⟩
    refine W.iteF (by simp) (W.retI (W.needI (by omega) (W.retI (h _ _ ⟨by simp, fun i hi => ?_⟩))))
    simp [hi, cR, AV.toRows]
end Go.Proofs.Ytfekobhcekcniaa.VX

set_option linter.unusedVariables false
set_option linter.unusedSimpArgs false
namespace Go.Proofs.Ytfekobhcekcniaa.VX
def plans (pl : Rws) : List Rws := pl.map fun r => cR r 0
theorem eqPl_plans {pl pl' : Rws} (h : eqPl pl pl') : plans pl = plans pl' := by
  apply List.ext_getElem
  · simp [plans, h.1]
  · intro i h1 h2
    have hi : i < pl.length := by simpa [plans] using h1
    have hi' : i < pl'.length := by simpa [plans] using h2
    have := h.2 i hi
    simpa [plans, hi, hi'] using this
theorem hdGo_plans : ∀ {pl pl' : Rws} {i : Nat}, plans pl = plans pl' → hdGo pl i = hdGo pl' i
  | [], [], _, _ => rfl
  | [], _ :: _, _, h => by simp [plans] at h
  | _ :: _, [], _, h => by simp [plans] at h
  | r :: pl, r' :: pl', i, h => by
    simp only [plans, List.map_cons, List.cons.injEq] at h
    rw [hdGo_cons, hdGo_cons, h.1, hdGo_plans (i := i + 1) h.2]
theorem plB_plans : ∀ {pl pl' : Rws}, plans pl = plans pl' → pl.flatMap plB = pl'.flatMap plB
  | [], [], _ => rfl
  | [], _ :: _, h => by simp [plans] at h
  | _ :: _, [], h => by simp [plans] at h
  | r :: pl, r' :: pl', h => by
    simp only [plans, List.map_cons, List.cons.injEq] at h
    simp only [List.flatMap_cons, plB, h.1, plB_plans h.2]
theorem len_plans {pl pl' : Rws} (h : plans pl = plans pl') : pl.length = pl'.length := by
  have := congrArg List.length h
  simpa [plans] using this
theorem hd_plans {sp pl pl' : Rws} (h : plans pl = plans pl') : hd sp pl = hd sp pl' := by
  unfold hd
  rw [len_plans h, hdGo_plans h]
theorem encB_plans {sp pl pl' : Rws} (h : plans pl = plans pl') : encB sp pl = encB sp pl' := by
  unfold encB
  rw [len_plans h, plB_plans h]
theorem mem_plans {pl : Rws} {p : Rws → Prop} : (∀ r ∈ pl, p (cR r 0)) ↔ ∀ q ∈ plans pl, p q := by simp [plans]
theorem fine_of {sp pl : Rws} (hs : num sp) (hp : ∀ r ∈ pl, num (cR r 0)) (h : (hd sp pl).1 = 0) : Fine sp pl := by
  obtain ⟨_, h1, h2, h3⟩ := hd_ok h
  exact ⟨h1, h2, fun r hr => (h3 r hr).1, hs, hp⟩
theorem encB_len {sp pl : Rws} (h : Fine sp pl) : (encB sp pl).length ≤ 4000000 := by
  have h1 := preB_len h
  have h2 := h.plB_len pl.length
  rw [List.take_length] at h2
  have e : encB sp pl = preB sp pl ++ pl.flatMap plB := rfl
  rw [e, List.length_append]; omega
theorem g_law16_SealEncodes_ok (a0 a2 : Bool) (sp pl : Rws) (hs : num sp) (hp : ∀ r ∈ pl, num (cR r 0)) (hsp : sp.length * 16 ≤ 140737488355328) (hpl : pl.length * 24 ≤ 140737488355328) (hpn : ∀ r ∈ pl, (cR r 0).length * 48 ≤ 140737488355328) :
    (g_law16_SealEncodes a0 sp a2 pl).run (fun b => b = true) := by
  unfold g_law16_SealEncodes
  have hpi : ∀ i, (cR (pl.getD i []) 0).length * 48 ≤ 140737488355328 := fun i => by
    by_cases hi : i < pl.length
    · rw [show pl.getD i [] = pl[i] by simp [hi]]
      exact hpn _ (List.getElem_mem hi)
    · rw [show pl.getD i [] = [] by simp [Nat.le_of_not_lt hi]]
      simp [cR, AV.toRows]
  refine W.bindI (g_ref15_Copy_ok _ _ _ _ hsp hpl hpi fun c pl' he => ?_)
  have hq := eqPl_plans he
  have hp' : ∀ r ∈ pl', num (cR r 0) := mem_plans.2 (hq ▸ mem_plans.1 hp)
  have hh := hd_plans (sp := sp) hq
  have hE := encB_plans (sp := sp) hq
  have fin : ∀ v1 v2 : Int × Int × Int × Bool × Rws, v1.1 = v2.1 → v1.2.1 = v2.2.1 → v1.2.2.1 = v2.2.2.1 → v1.2.2.2.2 = v2.2.2.2.2 → v1.2.2.2.2.length ≤ 140737488355328 →
      ((g_law16_fixed.bind fun v3 => W.ite (v3 && (v1.fst == v2.fst && (v1.snd.fst == v2.snd.fst && v1.snd.snd.fst == v2.snd.snd.fst))) (W.bind (g_law16_same (v1.snd.snd.snd.fst) (v1.snd.snd.snd.snd) (v2.snd.snd.snd.fst) (v2.snd.snd.snd.snd)) fun v4 =>
        W.ite (v4) (W.bind (g_ref15_Same (a0) (sp) (a2) (pl) (false) (sp) (c) (pl')) fun v5 => W.ret v5) (W.ret false)) (W.ret false)).bind fun v6 => W.ret v6).run (fun b => b = true) := by
    intro v1 v2 q1 q2 q3 q4 q5
    refine W.bindI (W.bindI (W.mono _ (fun v3 hv3 => ?_) fixed_ok))
    subst hv3
    refine W.iteT (by simp [q1, q2, q3]) ?_
    rw [← q4]
    refine W.bindI (g_law16_same_ok _ _ _ q5 (W.iteT rfl (W.bindI (g_ref15_Same_ok _ _ _ _ _ _ _ (by omega) (by omega) (fun i => by have := hpi i; omega) he (W.retI (W.retI rfl))))))
  refine W.bindI (g_seal_Encode_ok _ _ _ _ (fine_of hs hp) (fun hne => ?_) (fun hz c1 => ?_))
  · refine W.bindI (g_ref16_Encode_ok _ _ _ _ (fine_of hs hp') (fun _ => ?_) (fun hz => absurd (hh.trans rfl ▸ hz) hne))
    rw [← hh]
    exact fin _ _ rfl rfl rfl rfl (by simp)
  · refine W.bindI (g_ref16_Encode_ok _ _ _ _ (fine_of hs hp') (fun hne => absurd (hh ▸ hz) hne) (fun _ c2 => ?_))
    rw [← hE]
    refine fin _ _ rfl rfl rfl rfl ?_
    have := encB_len (fine_of hs hp hz)
    simp only [rowsB_len]; omega
end Go.Proofs.Ytfekobhcekcniaa.VX
