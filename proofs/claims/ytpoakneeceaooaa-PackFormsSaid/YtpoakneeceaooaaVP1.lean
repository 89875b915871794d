/- The bytes of a model: both encoders write them. -/
import Derived.Test.YtpoakneeceaooaaVP0
import Derived.Test.YtpoakneeceaooaaVX2
set_option linter.unusedVariables false
set_option linter.unusedSimpArgs false
set_option linter.unusedVariables false
set_option linter.unusedSimpArgs false
namespace Go.Proofs.Ytpoakneeceaooaa.VX
def sR (r : List AV) : List Nat := uB (zz (cI r 0))
def uR (r : List AV) : List Nat := uI (cI r 0)
def lB (l : Rws) : List Nat := uI (l.length : Int) ++ l.flatMap sR
def oB (o : Opr) : List Nat :=
  uI o.kind ++ uI o.a ++ uI o.b ++ uI o.m ++ uI o.win.kh ++ uI o.win.kw ++ uI o.win.sh ++ uI o.win.sw ++ uI o.win.top ++ uI o.win.left ++ uI o.win.bottom ++ uI o.win.right ++ lB o.ws ++ lB o.bs ++
  uI o.sam ++ uI o.sas ++ uI o.sbm ++ uI o.sbs ++ uB (zz o.zero) ++ uB (zz o.pad) ++ uB (zz o.lo) ++ uB (zz o.hi)
def mB (h w c lo hi : Int) (ops : List Opr) (out : Int) : List Nat := [83, 87, 77, 49] ++ uI h ++ uI w ++ uI c ++ uB (zz lo) ++ uB (zz hi) ++ uI (ops.length : Int) ++ ops.flatMap oB ++ uI out
section
variable {δ : Type} {x : Int} {b : Bool} {acc : List Nat} {k : Nat} {K : Bool × Rws → W δ} {R : δ → Prop}
theorem e1_step (h : acc.length ≤ k) (hk : k ≤ 100000000000000) (c : ∀ acc', acc' = acc ++ uI x → acc'.length ≤ k + 10 → (K (false, rowsB acc')).run R) : (W.bind (g_pack_Encode_1_p x b (rowsB acc)) K).run R := by
  unfold g_pack_Encode_1_p
  have := uI_len x
  refine W.bindI (W.bindI (PutU_uI b _ x (by rw [rowsB_len]; omega) (W.retI ?_)))
  rw [← rowsB_app]
  exact c _ rfl (by rw [List.length_append]; omega)
theorem e2_step (h : acc.length ≤ k) (hk : k ≤ 100000000000000) (hx : in64 x) (c : ∀ acc', acc' = acc ++ uB (zz x) → acc'.length ≤ k + 10 → (K (false, rowsB acc')).run R) : (W.bind (g_pack_Encode_2_p x b (rowsB acc)) K).run R := by
  unfold g_pack_Encode_2_p
  have := zzB_len hx
  refine W.bindI (W.bindI (g_wire_PutS_ok b _ hx.1 hx.2 (by rw [rowsB_len]; omega) (W.retI ?_)))
  rw [← rowsB_app]
  exact c _ rfl (by rw [List.length_append]; omega)
end
theorem take_len (l : Rws) : l.take l.length = l := List.take_of_length_le (Nat.le_refl _)
theorem take_next {f : List AV → List Nat} (l : Rws) {i : Nat} (h : i < l.length) (acc : List Nat) : acc ++ (l.take (i + 1)).flatMap f = acc ++ (l.take i).flatMap f ++ f (l.getD i []) := by
  rw [take_flat h, List.append_assoc]
theorem take_len_le {f : List AV → List Nat} {l : Rws} {k : Nat} (h : ∀ r ∈ l, (f r).length ≤ k) (i : Nat) : ((l.take i).flatMap f).length ≤ k * l.length := by
  have := flat_len (f := f) (k := k) (l := l.take i) fun r hr => h r (List.mem_of_mem_take hr)
  have h2 : (l.take i).length ≤ l.length := by simp; omega
  exact Nat.le_trans this (Nat.mul_le_mul_left _ h2)
theorem I1.in64 {lo hi : Int} (h1 : -9223372036854775808 ≤ lo) (h2 : hi ≤ 9223372036854775807) {r : List AV} (h : I1 lo hi r) : in64 (cI r 0) := by
  obtain ⟨x, rfl, q1, q2⟩ := h
  exact ⟨Int.le_trans h1 q1, Int.le_trans q2 h2⟩
theorem get_mem {l : Rws} {i : Nat} (h : i < l.length) : l.getD i [] ∈ l := by
  rw [show l.getD i [] = l[i] by simp [h]]; exact List.getElem_mem h
theorem in64_wrap {x : Int} (h : in64 x) : IntKind.i64.wrap x = x := wrap64_in h.1 h.2
theorem g_pack_lists_ok (o : Opr) (b : Bool) {acc : List Nat} (ha : acc.length ≤ 10000000000) (hw : o.ws.length ≤ 131072 ∧ ∀ r ∈ o.ws, in64 (cI r 0)) (hb : o.bs.length ≤ 1024 ∧ ∀ r ∈ o.bs, in64 (cI r 0)) {R : Bool × Rws → Prop} (h : R (false, rowsB (acc ++ lB o.ws ++ lB o.bs))) :
    (g_pack_lists b (rowsB acc) o.kind o.a o.b o.m o.win.kh o.win.kw o.win.sh o.win.sw o.win.top o.win.left o.win.bottom o.win.right o.wn o.ws o.bn o.bs o.sam o.sas o.sbm o.sbs o.zero o.pad o.lo o.hi).run R := by
  unfold g_pack_lists
  unfold lB at h
  obtain ⟨hw1, hw2⟩ := hw
  obtain ⟨hb1, hb2⟩ := hb
  generalize o.ws = ws at *
  generalize o.bs = bs at *
  have hS : ∀ (l : Rws), (∀ r ∈ l, in64 (cI r 0)) → ∀ i, ((l.take i).flatMap sR).length ≤ 10 * l.length := fun l hl i => take_len_le (fun r hr => zzB_len (hl r hr)) i
  refine W.bindI (PutU_uI b _ _ (by rw [rowsB_len]; omega) ?_)
  rw [← rowsB_app]
  refine W.needI (by rw [wrap64_in (by omega) (by omega)]; omega) ?_
  refine W.bindI (W.loop_for ws.length (fun i s => s = ((i : Int), rowsB ((ws.take i).flatMap sR))) ?_ ?_ rfl)
  · rintro i _ hlt rfl
    refine W.iteT (by simpa using hlt) (W.needI (by dsimp only; omega) ?_)
    have hx := hw2 _ (get_mem hlt)
    dsimp only
    rw [Int.toNat_natCast, ri_eq, in64_wrap hx]
    refine W.bindI (g_wire_PutS_ok true [] hx.1 hx.2 (by simp) ?_)
    rw [List.nil_append]
    have h1 := hS ws hw2 i
    have h2 := zzB_len hx
    refine W.needI (by simp only [rowsB_len]; omega) (W.retI ?_)
    show _ = _
    rw [wrap_succ (by omega), ← rowsB_app, take_flat hlt]
    rfl
  rintro _ rfl
  refine W.iteF (by simp) (W.retI ?_)
  rw [take_len]
  have h1 := hS ws hw2 ws.length
  rw [take_len] at h1
  have h3 := uI_len (ws.length : Int)
  have h4 : (acc ++ uI (ws.length : Int) ++ ws.flatMap sR).length ≤ 10001500000 := by simp only [List.length_append]; omega
  refine W.needI (by simp only [rowsB_len, List.length_append]; omega) ?_
  rw [← rowsB_app]
  rw [← List.append_assoc, ← List.append_assoc] at h
  generalize acc ++ uI (ws.length : Int) ++ ws.flatMap sR = acc at h4 h
  refine W.bindI (PutU_uI _ _ _ (by rw [rowsB_len]; omega) ?_)
  rw [← rowsB_app]
  have h5 := uI_len (bs.length : Int)
  have h6 : (acc ++ uI (bs.length : Int)).length ≤ 10001500010 := by simp only [List.length_append]; omega
  generalize acc ++ uI (bs.length : Int) = acc at h6 h
  refine W.bindI (W.loop_for bs.length (fun i s => s = ((i : Int), false, rowsB (acc ++ (bs.take i).flatMap sR))) ?_ ?_ (by simp))
  · rintro i _ hlt rfl
    refine W.iteT (by simpa using hlt) (W.needI (by dsimp only; omega) ?_)
    have hx := hb2 _ (get_mem hlt)
    dsimp only
    rw [Int.toNat_natCast, ri_eq, in64_wrap hx]
    have h1 := hS bs hb2 i
    refine W.bindI (g_wire_PutS_ok _ _ hx.1 hx.2 (by simp only [rowsB_len, List.length_append]; omega) (W.retI ?_))
    show _ = _
    rw [wrap_succ (by omega), ← rowsB_app, take_next bs hlt]
    rfl
  rintro _ rfl
  refine W.iteF (by simp) (W.retI (W.retI ?_))
  rw [take_len]
  exact h
/-- The lists of every op hold what their types hold. -/
def formed (l : Rws) : Prop := ∀ o ∈ oprs l, (∀ r ∈ o.ws, I1 (-32768) 32767 r) ∧ ∀ r ∈ o.bs, I1 (-2147483648) 2147483647 r
theorem OpOK.ws64 {o : Opr} (h : OpOK o) : (o.ws.length ≤ 131072 ∧ ∀ r ∈ o.ws, in64 (cI r 0)) ∧ (o.bs.length ≤ 1024 ∧ ∀ r ∈ o.bs, in64 (cI r 0)) :=
  ⟨⟨h.ws.1, fun r hr => (h.ws.2 r hr).in64 (by decide) (by decide)⟩, h.bs.1, fun r hr => (h.bs.2 r hr).in64 (by decide) (by decide)⟩
theorem lB_len {l : Rws} {n : Nat} (hl : l.length ≤ n) (h : ∀ r ∈ l, in64 (cI r 0)) : (lB l).length ≤ 10 * n + 10 := by
  have h1 := flat_len (f := sR) (k := 10) (l := l) fun r hr => zzB_len (h r hr)
  have h2 := uI_len (l.length : Int)
  unfold lB
  rw [List.length_append]; omega
theorem OpOK.e64 {o : Opr} (h : OpOK o) : in64 o.zero ∧ in64 o.pad ∧ in64 o.lo ∧ in64 o.hi := by
  have h1 := h.e0
  have h2 := h.e1
  have h3 := h.e2
  have h4 := h.e3
  unfold in64
  omega
theorem oB_len {o : Opr} (h : OpOK o) : (oB o).length ≤ 1500000 := by
  obtain ⟨⟨a1, a2⟩, b1, b2⟩ := h.ws64
  obtain ⟨e1, e2, e3, e4⟩ := h.e64
  have h1 := lB_len a1 a2
  have h2 := lB_len b1 b2
  have f1 := zzB_len e1
  have f2 := zzB_len e2
  have f3 := zzB_len e3
  have f4 := zzB_len e4
  unfold oB
  simp only [List.length_append]
  have g0 := uI_len o.kind; have g1 := uI_len o.a; have g2 := uI_len o.b; have g3 := uI_len o.m; have g4 := uI_len o.win.kh; have g5 := uI_len o.win.kw; have g6 := uI_len o.win.sh; have g7 := uI_len o.win.sw
  have g8 := uI_len o.win.top; have g9 := uI_len o.win.left; have g10 := uI_len o.win.bottom; have g11 := uI_len o.win.right; have g12 := uI_len o.sam; have g13 := uI_len o.sas; have g14 := uI_len o.sbm; have g15 := uI_len o.sbs
  omega
end Go.Proofs.Ytpoakneeceaooaa.VX

set_option linter.unusedVariables false
set_option linter.unusedSimpArgs false
namespace Go.Proofs.Ytpoakneeceaooaa.VX
def oR (r : List AV) : List Nat := oB (Opr.of r)
theorem oprs_flat (l : Rws) : (oprs l).flatMap oB = l.flatMap oR := by
  unfold oprs; rw [List.flatMap_map]; rfl
theorem oprs_len (l : Rws) : (oprs l).length = l.length := by simp [oprs]
theorem oprs_mem {l : Rws} {r : List AV} (h : r ∈ l) : Opr.of r ∈ oprs l := List.mem_map.2 ⟨r, h, rfl⟩
theorem app_bd {a b c : List Nat} {k m n : Nat} (h : a.length ≤ k) (h1 : b.length ≤ m) (h2 : c.length ≤ n) : (a ++ b ++ c).length ≤ k + m + n := by
  simp only [List.length_append]; omega
theorem val64 {x : Int} (h : val x) : in64 x := by unfold val at h; unfold in64; omega
theorem g_pack_Encode_ok (a b c lo hi : Int) (nl : Bool) (l : Rws) (out : Int) (hl : l.length ≤ 676622540150) (hsh : short l) (hf : formed l) {R : Int × Int × Int × Bool × Rws → Prop}
    (h0 : (look8 ⟨a, b, c⟩ lo hi (oprs l) out).err ≠ 0 → R ((look8 ⟨a, b, c⟩ lo hi (oprs l) out).err, (look8 ⟨a, b, c⟩ lo hi (oprs l) out).op, 0, true, []))
    (h1 : (look8 ⟨a, b, c⟩ lo hi (oprs l) out).err = 0 → R (0, 0, 0, false, rowsB (mB a b c lo hi (oprs l) out))) : (g_pack_Encode a b c lo hi nl l out).run R := by
  unfold g_pack_Encode
  refine W.bindI (g_model_Check_v a b c lo hi nl l out hl hsh (W.iteC ((look8 ⟨a, b, c⟩ lo hi (oprs l) out).err ≠ 0) (by simp; rfl) (fun e => W.retI (h0 e)) fun e => ?_))
  have e := Classical.not_not.1 e
  obtain ⟨hs, hv, hN, ho, hop⟩ := look_fine e hf
  replace h1 := h1 e
  clear h0 e
  rw [oprs_len] at hN ho
  have hop : ∀ r ∈ l, OpOK (Opr.of r) := fun r hr => hop _ (oprs_mem hr)
  have hoL : ∀ i, ((l.take i).flatMap oR).length ≤ 1500000 * l.length := fun i => take_len_le (fun r hr => oB_len (hop r hr)) i
  refine e1_step (acc := [83, 87, 77, 49]) (k := 4) (by decide) (by omega) fun A1 E1 h => ?_
  refine e1_step h (by decide) fun A2 E2 h => ?_
  refine e1_step h (by decide) fun A3 E3 h => ?_
  refine e2_step h (by decide) (val64 hv.1) fun A4 E4 h => ?_
  refine e2_step h (by decide) (val64 hv.2) fun A5 E5 h => ?_
  refine e1_step h (by decide) fun A6 E6 h => ?_
  unfold mB at h1
  rw [oprs_flat, oprs_len] at h1
  rw [← E1, ← E2, ← E3, ← E4, ← E5, ← E6] at h1
  clear E1 E2 E3 E4 E5 E6
  generalize A6 = acc at h h1
  refine W.bindI (W.loop_for l.length (fun i s => s = ((i : Int), false, rowsB (acc ++ (l.take i).flatMap oR))) ?_ ?_ (by simp))
  · rintro i _ hlt rfl
    refine W.iteT (by simpa using hlt) (W.needI (by dsimp only; omega) ?_)
    dsimp only
    rw [Int.toNat_natCast]
    have hO := hop _ (get_mem hlt)
    have hi := hoL i
    have hA : (acc ++ (l.take i).flatMap oR).length ≤ 100000000 := by rw [List.length_append]; omega
    rw [wrap_succ (by omega), take_next l hlt]
    generalize acc ++ (l.take i).flatMap oR = acc at hA
    obtain ⟨⟨a1, a2⟩, b1, b2⟩ := hO.ws64
    obtain ⟨q1, q2, q3, q4⟩ := hO.e64
    have hL1 := lB_len a1 a2
    have hL2 := lB_len b1 b2
    unfold g_pack_numbers_p g_pack_scales_p g_pack_ends_p
    refine W.bindI (W.retI ?_)
    refine e1_step hA (by decide) fun A7 E7 h => ?_
    refine e1_step h (by decide) fun A8 E8 h => ?_
    refine e1_step h (by decide) fun A9 E9 h => ?_
    refine e1_step h (by decide) fun A10 E10 h => ?_
    refine e1_step h (by decide) fun A11 E11 h => ?_
    refine e1_step h (by decide) fun A12 E12 h => ?_
    refine e1_step h (by decide) fun A13 E13 h => ?_
    refine e1_step h (by decide) fun A14 E14 h => ?_
    refine e1_step h (by decide) fun A15 E15 h => ?_
    refine e1_step h (by decide) fun A16 E16 h => ?_
    refine e1_step h (by decide) fun A17 E17 h => ?_
    refine e1_step h (by decide) fun A18 E18 h => ?_
    refine W.bindI (g_pack_lists_ok (Opr.of (l.getD i [])) _ (by omega) ⟨a1, a2⟩ ⟨b1, b2⟩ (W.bindI (W.retI ?_)))
    have h := app_bd h hL1 hL2
    generalize hAA : A18 ++ lB (Opr.of (l.getD i [])).ws ++ lB (Opr.of (l.getD i [])).bs = AA at h
    refine e1_step h (by decide) fun A19 E19 h => ?_
    refine e1_step h (by decide) fun A20 E20 h => ?_
    refine e1_step h (by decide) fun A21 E21 h => ?_
    refine e1_step h (by decide) fun A22 E22 h => W.bindI (W.retI ?_)
    refine e2_step h (by decide) q1 fun A23 E23 h => ?_
    refine e2_step h (by decide) q2 fun A24 E24 h => ?_
    refine e2_step h (by decide) q3 fun A25 E25 h => ?_
    refine e2_step h (by decide) q4 fun A26 E26 h => W.retI ?_
    show _ = _
    unfold oR oB
    rw [E26, E25, E24, E23, E22, E21, E20, E19, ← hAA, E18, E17, E16, E15, E14, E13, E12, E11, E10, E9, E8, E7]
    simp only [List.append_assoc]
    rfl
  rintro _ rfl
  refine W.iteF (by simp) (W.retI ?_)
  rw [take_len]
  have hi := hoL l.length
  rw [take_len] at hi
  refine e1_step (k := 200000000) (by rw [List.length_append]; omega) (by omega) fun A27 E27 h => ?_
  rw [← E27] at h1
  exact W.retI h1
theorem us_step {δ : Type} {l : Rws} {nb : Bool} {acc : List Nat} {k : Nat} {K : Bool × Rws → W δ} {R : δ → Prop} (hl : l.length ≤ 100) (h : acc.length ≤ k) (hk : k ≤ 100000000000000) (c : (acc ++ l.flatMap uR).length ≤ k + 1000 → (K (false, rowsB (acc ++ l.flatMap uR))).run R) : (W.bind (g_ref09_us_o nb l false (rowsB acc)) K).run R := by
  unfold g_ref09_us_o
  have hS : ∀ i, ((l.take i).flatMap uR).length ≤ 10 * l.length := fun i => take_len_le (fun r hr => uI_len (cI r 0)) i
  refine W.bindI (W.bindI (W.loop_for l.length (fun i s => s = ((i : Int), false, rowsB (acc ++ (l.take i).flatMap uR))) ?_ ?_ (by simp)))
  · rintro i _ hlt rfl
    refine W.iteT (by simpa using hlt) (W.needI (by dsimp only; omega) ?_)
    dsimp only
    obtain ⟨h1, h2⟩ := wrapu_nat (ri l i 0)
    rw [Int.toNat_natCast, ← h1]
    have h3 := hS i
    have h4 := uB_len10 h2
    refine W.bindI (g_ref04_U_ok h2 (W.needI (by simp only [rowsB_len, List.length_append]; omega) (W.retI ?_)))
    show _ = _
    rw [wrap_succ (by omega), ← rowsB_app, take_next l hlt]
    rfl
  rintro _ rfl
  refine W.iteF (by simp) (W.retI (W.retI ?_))
  have h3 := hS l.length
  rw [take_len] at h3 ⊢
  exact c (by rw [List.length_append]; omega)
theorem ss_step {δ : Type} {l : Rws} {nb : Bool} {acc : List Nat} {k : Nat} {K : Bool × Rws → W δ} {R : δ → Prop} (hl : l.length ≤ 100) (hx : ∀ r ∈ l, in64 (cI r 0)) (h : acc.length ≤ k) (hk : k ≤ 100000000000000) (c : (acc ++ l.flatMap sR).length ≤ k + 1000 → (K (false, rowsB (acc ++ l.flatMap sR))).run R) : (W.bind (g_ref09_ss_o nb l false (rowsB acc)) K).run R := by
  unfold g_ref09_ss_o
  have hS : ∀ i, ((l.take i).flatMap sR).length ≤ 10 * l.length := fun i => take_len_le (fun r hr => zzB_len (hx r hr)) i
  refine W.bindI (W.bindI (W.loop_for l.length (fun i s => s = ((i : Int), false, rowsB (acc ++ (l.take i).flatMap sR))) ?_ ?_ (by simp)))
  · rintro i _ hlt rfl
    refine W.iteT (by simpa using hlt) (W.needI (by dsimp only; omega) ?_)
    dsimp only
    have hx := hx _ (get_mem hlt)
    rw [Int.toNat_natCast, ri_eq]
    have h3 := hS i
    have h4 := zzB_len hx
    refine W.bindI (g_ref04_S_ok hx.1 hx.2 (W.needI (by simp only [rowsB_len, List.length_append]; omega) (W.retI ?_)))
    show _ = _
    rw [wrap_succ (by omega), ← rowsB_app, take_next l hlt]
    rfl
  rintro _ rfl
  refine W.iteF (by simp) (W.retI (W.retI ?_))
  have h3 := hS l.length
  rw [take_len] at h3 ⊢
  exact c (by rw [List.length_append]; omega)
/-- The list of an op, number by number. -/
theorem ssl_step {δ : Type} {l : Rws} {acc : List Nat} {K : Int × Bool × Bool × Rws → W δ} {R : δ → Prop} (hl : l.length ≤ 131072) (hx : ∀ r ∈ l, in64 (cI r 0)) (h : acc.length ≤ 10000000000) (c : ∀ (i : Int) (t : Bool), (K (i, t, false, rowsB (acc ++ l.flatMap sR))).run R) :
    (W.bind (W.loop (σ := Int × Bool × Rws) (ε := Int × Bool × Bool × Rws) (fun v5 =>
      W.ite (decide (v5.fst < (↑(List.length l) : Int))) (W.need (0 ≤ v5.fst ∧ v5.fst < (↑(List.length l) : Int)) <|
      W.bind (g_ref09_ss_o (false) ([[I (IntKind.i64.wrap (ri l v5.fst.toNat 0))]]) (v5.snd.fst) (v5.snd.snd)) fun v6 =>
      W.ret (Sum.inl (IntKind.i64.wrap (v5.fst + 1), v6.fst, v6.snd)))
      (W.ret (Sum.inr (v5.fst, decide (v5.fst < (↑(List.length l) : Int)), v5.snd.fst, v5.snd.snd)))) (0, false, rowsB acc)) K).run R := by
  have hS : ∀ i, ((l.take i).flatMap sR).length ≤ 10 * l.length := fun i => take_len_le (fun r hr => zzB_len (hx r hr)) i
  refine W.bindI (W.loop_for l.length (fun i s => s = ((i : Int), false, rowsB (acc ++ (l.take i).flatMap sR))) ?_ ?_ (by simp))
  · rintro i _ hlt rfl
    refine W.iteT (by simpa using hlt) (W.needI (by dsimp only; omega) ?_)
    dsimp only
    have hx := hx _ (get_mem hlt)
    rw [Int.toNat_natCast, ri_eq, in64_wrap hx]
    have h3 := hS i
    refine ss_step (k := 20000000000) (by simp) (fun r hr => by simp at hr; subst hr; exact hx) (by simp only [List.length_append]; omega) (by omega) fun _ => W.retI ?_
    show _ = _
    rw [wrap_succ (by omega), take_next l hlt]
    simp only [List.flatMap_cons, List.flatMap_nil, List.append_nil]
    rfl
  rintro _ rfl
  refine W.iteF (by simp) (W.retI ?_)
  rw [take_len]
  exact c _ _
theorem cI_one (x : Int) : cI [I x] 0 = x := rfl
theorem g_ref09_Bytes_ok (a b c lo hi : Int) (nl : Bool) (l : Rws) (out : Int) (hv : val lo ∧ val hi) (hN : l.length ≤ 64) (hop : ∀ r ∈ l, OpOK (Opr.of r)) {R : Bool × Rws → Prop} (h1 : R (false, rowsB (mB a b c lo hi (oprs l) out))) : (g_ref09_Bytes a b c lo hi nl l out).run R := by
  unfold g_ref09_Bytes
  have hoL : ∀ i, ((l.take i).flatMap oR).length ≤ 1500000 * l.length := fun i => take_len_le (fun r hr => oB_len (hop r hr)) i
  refine us_step (acc := [83, 87, 77, 49]) (k := 4) (by simp) (by decide) (by omega) fun h => ?_
  refine ss_step (by simp) (fun r hr => by simp at hr; rcases hr with rfl | rfl; exact val64 hv.1; exact val64 hv.2) h (by omega) fun h => ?_
  refine us_step (by simp) h (by omega) fun h => ?_
  unfold mB at h1
  rw [oprs_flat, oprs_len] at h1
  have e0 : [83, 87, 77, 49] ++ [[I a], [I b], [I c]].flatMap uR ++ [[I lo], [I hi]].flatMap sR ++ [[I (l.length : Int)]].flatMap uR = [83, 87, 77, 49] ++ uI a ++ uI b ++ uI c ++ uB (zz lo) ++ uB (zz hi) ++ uI (l.length : Int) := by
    simp only [List.flatMap_cons, List.flatMap_nil, List.append_nil, List.append_assoc, uR, sR, cI_one]
  rw [← e0] at h1
  generalize [83, 87, 77, 49] ++ [[I a], [I b], [I c]].flatMap uR ++ [[I lo], [I hi]].flatMap sR ++ [[I (l.length : Int)]].flatMap uR = acc at h h1
  refine W.bindI (W.loop_for l.length (fun i s => s = ((i : Int), false, rowsB (acc ++ (l.take i).flatMap oR))) ?_ ?_ (by simp))
  · rintro i _ hlt rfl
    refine W.iteT (by simpa using hlt) (W.needI (by dsimp only; omega) ?_)
    dsimp only
    rw [Int.toNat_natCast]
    have hO := hop _ (get_mem hlt)
    have hi := hoL i
    have hA : (acc ++ (l.take i).flatMap oR).length ≤ 100000000 := by rw [List.length_append]; omega
    rw [wrap_succ (by omega), take_next l hlt]
    generalize acc ++ (l.take i).flatMap oR = acc at hA
    obtain ⟨⟨a1, a2⟩, b1, b2⟩ := hO.ws64
    obtain ⟨q1, q2, q3, q4⟩ := hO.e64
    have hL1 := lB_len a1 a2
    have hL2 := lB_len b1 b2
    have s1 := flat_len (f := sR) (k := 10) (l := rr l i 12) fun r hr => zzB_len (a2 r hr)
    have s2 := flat_len (f := sR) (k := 10) (l := rr l i 13) fun r hr => zzB_len (b2 r hr)
    have a1' : (rr l i 12).length ≤ 131072 := a1
    have b1' : (rr l i 13).length ≤ 1024 := b1
    refine us_step (by simp) hA (by omega) fun h => ?_
    refine ssl_step a1' a2 (by omega) fun _ _ => ?_
    refine us_step (k := 200000000) (by simp) (by rw [List.length_append]; omega) (by omega) fun h => ?_
    refine ssl_step (by omega) b2 (by omega) fun _ _ => ?_
    refine us_step (k := 300000000) (by simp) (by rw [List.length_append]; omega) (by omega) fun h => ?_
    refine ss_step (by simp) (fun r hr => ?_) h (by omega) fun h => W.retI ?_
    · simp at hr
      rcases hr with rfl | rfl | rfl | rfl
      · exact q1
      · exact q2
      · exact q3
      · exact q4
    show _ = _
    unfold oR oB lB
    simp only [List.flatMap_cons, List.flatMap_nil, List.append_nil, List.append_assoc, uR, cI_one]
    rfl
  rintro _ rfl
  refine W.iteF (by simp) (W.retI ?_)
  rw [take_len]
  have hi := hoL l.length
  rw [take_len] at hi
  refine us_step (k := 200000000) (by simp) (by rw [List.length_append]; omega) (by omega) fun h => W.retI ?_
  have e2 : [[I out]].flatMap uR = uI out := by simp only [List.flatMap_cons, List.flatMap_nil, List.append_nil, uR, cI_one]
  rw [e2]
  exact h1
theorem g_ref09_Encode_ok (a b c lo hi : Int) (nl : Bool) (l : Rws) (out : Int) (hl : l.length ≤ 676622540150) (hsh : short l) (hf : formed l) {R : Int × Int × Int × Bool × Rws → Prop}
    (h0 : (look8 ⟨a, b, c⟩ lo hi (oprs l) out).err ≠ 0 → R ((look8 ⟨a, b, c⟩ lo hi (oprs l) out).err, (look8 ⟨a, b, c⟩ lo hi (oprs l) out).op, 0, true, []))
    (h1 : (look8 ⟨a, b, c⟩ lo hi (oprs l) out).err = 0 → R (0, 0, 0, false, rowsB (mB a b c lo hi (oprs l) out))) : (g_ref09_Encode a b c lo hi nl l out).run R := by
  unfold g_ref09_Encode
  refine W.bindI (g_ref08_Check_v a b c lo hi nl l out hl hsh (W.iteC ((look8 ⟨a, b, c⟩ lo hi (oprs l) out).err ≠ 0) (by simp; rfl) (fun e => W.retI (h0 e)) fun e => ?_))
  have e := Classical.not_not.1 e
  obtain ⟨hs, hv, hN, ho, hop⟩ := look_fine e hf
  rw [oprs_len] at hN
  exact W.bindI (g_ref09_Bytes_ok a b c lo hi nl l out hv hN (fun r hr => hop _ (oprs_mem hr)) (W.retI (h1 e)))
/-! ### The laws PackEncodes and PackDecodes -/
theorem g_law09_same_ok (n m : Bool) (l : Rws) (hl : l.length ≤ 140737488355328) {R : Bool → Prop} (h : R true) : (g_law09_same n l m l).run R := by
  unfold g_law09_same
  refine W.iteF (by simp) (W.bindI (W.loop_for l.length (fun i s => s = (i : Int)) ?_ ?_ rfl))
  · rintro i _ hlt rfl
    refine W.iteT (by simpa using hlt) (W.needI (by omega) (W.needI (by omega) (W.iteF (by simp) (W.retI ?_))))
    show _ = _
    exact wrap_succ (by omega)
  · rintro _ rfl
    exact W.iteF (by simp) (W.retI (W.retI h))
theorem mB_cp (a b c lo hi : Int) (l : Rws) (out : Int) : mB a b c lo hi (oprs (l.map cpRow)) out = mB a b c lo hi (oprs l) out := by
  unfold mB
  rw [oprs_flat, oprs_flat, oprs_len, oprs_len, List.length_map, List.flatMap_map]
  rfl
theorem formed_cp {l : Rws} (h : formed l) : formed (l.map cpRow) := by
  intro o ho
  unfold oprs at ho
  rw [List.map_map] at ho
  obtain ⟨r, hr, rfl⟩ := List.mem_map.1 ho
  show (∀ x ∈ (Opr.of r).ws, _) ∧ ∀ x ∈ (Opr.of r).bs, _
  exact h (Opr.of r) (oprs_mem hr)
end Go.Proofs.Ytpoakneeceaooaa.VX

set_option linter.unusedVariables false
set_option linter.unusedSimpArgs false
namespace Go.Proofs.Ytpoakneeceaooaa.VX
section
set_option maxRecDepth 100000
set_option maxHeartbeats 0
attribute [local irreducible] W.loop
theorem fixed09 : g_law09_fixed.run (fun b => b = true) := by
  iterate 20000 (all_goals ((conv => whnf) <;> first | with_reducible exact rfl | with_reducible refine XNeed.mk (of_decide_eq_true (by decide +kernel)) ?_ | with_reducible refine XSplit.tt' (by decide +kernel) ?_ | with_reducible refine XSplit.ff' (by decide +kernel) ?_ | refine loop_go ?_ | decide +kernel))
end
end Go.Proofs.Ytpoakneeceaooaa.VX

set_option linter.unusedVariables false
set_option linter.unusedSimpArgs false
namespace Go.Proofs.Ytpoakneeceaooaa.VX
theorem g_law09_fixed_ok {R : Bool → Prop} (h : R true) : g_law09_fixed.run R := g_law09_fixed.mono (fun b e => by rw [e]; exact h) fixed09
theorem g_law09_PackEncodes_ok (a b c lo hi : Int) (nl : Bool) (l : Rws) (out : Int) (hl : l.length ≤ 676622540150) (hsh : short l) (hf : formed l) {R : Bool → Prop} (h : R true) : (g_law09_PackEncodes a b c lo hi nl l out).run R := by
  unfold g_law09_PackEncodes
  have hsame := look8_same (sameOps_cp l) ⟨a, b, c⟩ lo hi out
  have fin : ∀ x : Bool, x = true → ((W.bind (α := Bool) (W.bind (g_ref08_Same a b c lo hi nl l out a b c lo hi l.isEmpty (l.map cpRow) out) fun v5 => W.ret v5) fun v6 => W.ret v6)).run R := fun x hx =>
    W.bindI (W.bindI (g_ref08_Same_ok a b c lo hi out nl l.isEmpty l (l.map cpRow) hl hsh (sameOps_cp l) (W.retI (W.retI h))))
  refine W.bindI (g_ref08_Copy_ok a b c lo hi nl l out hl hsh ?_)
  have hl' : (l.map cpRow).length ≤ 676622540150 := by rw [List.length_map]; exact hl
  refine W.bindI (g_pack_Encode_ok a b c lo hi nl l out hl hsh hf (fun e => ?_) (fun e => ?_))
  · refine W.bindI (g_ref09_Encode_ok a b c lo hi l.isEmpty (l.map cpRow) out hl' (short_cp hsh) (formed_cp hf) (fun e' => ?_) (fun e' => absurd (by rw [← hsame]; exact e') e))
    rw [hsame]
    refine W.bindI (W.bindI (g_law09_fixed_ok (W.iteT (by simp) (W.bindI (g_law09_same_ok _ _ _ (by simp) (W.iteT rfl ?_))))))
    exact W.bindI (g_ref08_Same_ok a b c lo hi out nl l.isEmpty l (l.map cpRow) hl hsh (sameOps_cp l) (W.retI (W.retI h)))
  · refine W.bindI (g_ref09_Encode_ok a b c lo hi l.isEmpty (l.map cpRow) out hl' (short_cp hsh) (formed_cp hf) (fun e' => absurd (by rw [hsame]; exact e) e') (fun e' => ?_))
    rw [mB_cp]
    have hB : (rowsB (mB a b c lo hi (oprs l) out)).length ≤ 140737488355328 := by
      obtain ⟨hs, hv, hN, ho, hop⟩ := look_fine e hf
      rw [oprs_len] at hN
      have h1 := flat_len (f := oR) (k := 1500000) (l := l) fun r hr => oB_len (hop _ (oprs_mem hr))
      have g1 := uI_len a; have g2 := uI_len b; have g3 := uI_len c; have g4 := zzB_len (val64 hv.1); have g5 := zzB_len (val64 hv.2); have g6 := uI_len (l.length : Int); have g7 := uI_len out
      rw [rowsB_len]
      unfold mB
      rw [oprs_flat, oprs_len]
      simp only [List.length_append, List.length_cons, List.length_nil]
      omega
    refine W.bindI (W.bindI (g_law09_fixed_ok (W.iteT (by simp) (W.bindI (g_law09_same_ok _ _ _ hB (W.iteT rfl ?_))))))
    exact W.bindI (g_ref08_Same_ok a b c lo hi out nl l.isEmpty l (l.map cpRow) hl hsh (sameOps_cp l) (W.retI (W.retI h)))
theorem sameOps_refl : ∀ l : List Opr, sameOps l l
  | [] => trivial
  | o :: r => ⟨⟨o.wn, o.bn, rfl⟩, sameOps_refl r⟩
theorem rdMany_ind {α ε : Type} {f : Rws → Except ε (α × Rws)} {P : α → Prop} (hf : ∀ r a r', f r = .ok (a, r') → P a) : ∀ (n : Nat) (l : Rws) (xs : List α) (r : Rws), rdMany f n l = .ok (xs, r) → xs.length = n ∧ ∀ x ∈ xs, P x
  | 0, l, xs, r, h => by cases h; simp
  | n + 1, l, xs, r, h => by
    rw [rdMany_succ] at h
    cases h1 : f l with
    | error e => rw [h1] at h; cases h
    | ok x =>
      obtain ⟨a, r1⟩ := x
      rw [h1] at h
      dsimp only at h
      cases h2 : rdMany f n r1 with
      | error e => rw [h2] at h; cases h
      | ok y =>
        obtain ⟨ys, r2⟩ := y
        rw [h2] at h
        cases h
        obtain ⟨q1, q2⟩ := rdMany_ind hf n r1 ys _ h2
        exact ⟨by simp [q1], fun x hx => by rcases List.mem_cons.1 hx with rfl | hx; exact hf _ _ _ h1; exact q2 x hx⟩
theorem rdHd_max {l r : Rws} {h w c lo hi : Int} {n : Nat} (e : rdHd l = .ok ((h, w, c, lo, hi, n), r)) : n ≤ 64 := by
  unfold rdHd at e
  obtain ⟨x0, q0, h0, e⟩ := andE_inv e
  obtain ⟨x1, q1, h1, e⟩ := andE_inv e
  obtain ⟨x2, q2, h2, e⟩ := andE_inv e
  obtain ⟨x3, q3, h3, e⟩ := andE_inv e
  obtain ⟨x4, q4, h4, e⟩ := andE_inv e
  obtain ⟨x5, q5, h5, e⟩ := andE_inv e
  cases e
  exact rdU_max h5
theorem decM_fine {l : Rws} {m : Mdl} (h : decM l = .ok m) : m.ops.length ≤ 64 ∧ ∀ o ∈ m.ops, OpOK o := by
  unfold decM at h
  split at h
  · cases h
  · split at h
    · unfold bodyM at h
      split at h
      · cases h
      · rename_i hH
        have hn := rdHd_max hH
        split at h
        · cases h
        · rename_i hm
          obtain ⟨q1, q2⟩ := rdMany_ind (P := OpOK) (fun _ _ _ q => (rdOp_fine q).1) _ _ _ _ hm
          split at h
          · cases h
          · split at h
            · cases h; exact ⟨by rw [q1]; exact hn, q2⟩
            · cases h
    · cases h
theorem Same_none {n1 n2 : Bool} {R : Bool → Prop} (h : R true) : (g_ref08_Same 0 0 0 0 0 n1 [] 0 0 0 0 0 0 n2 [] 0).run R :=
  g_ref08_Same_ok 0 0 0 0 0 0 n1 n2 [] [] (by simp) (fun r hr => by simp at hr) trivial h
theorem Same_ops {a b c lo hi out : Int} {n1 n2 : Bool} {ops : List Opr} (hl : ops.length ≤ 64) (ho : ∀ o ∈ ops, OpOK o) {R : Bool → Prop} (h : R true) : (g_ref08_Same a b c lo hi n1 (ops.map Opr.row) out a b c lo hi n2 (ops.map Opr.row) out).run R :=
  g_ref08_Same_ok a b c lo hi out n1 n2 _ _ (by rw [List.length_map]; omega) (OpOK.of_rows rfl ho) (sameOps_refl _) h
theorem g_law09_PackDecodes_ok (b : Bool) (l : Rws) (hl : byt l) (hn : l.length ≤ 140737488355328) (hb : b = true → l = []) {R : Bool → Prop} (h : R true) : (g_law09_PackDecodes b l).run R := by
  unfold g_law09_PackDecodes
  refine W.needI (by omega) ?_
  refine W.bindI (g_pack_Decode_ok b l hl hn hb (fun e i hne q => ?_) (fun m q q2 => ?_) (fun m c q q2 => ?_))
  · refine W.bindI (g_ref09_Decode_ok false l hl hn (fun e' i' hne' q' => ?_) (fun m q' _ => ?_) (fun m c q' _ => ?_))
    · rw [q] at q'; cases q'
      refine W.bindI (W.bindI (g_law09_fixed_ok (W.iteT (by simp) (W.bindI (Same_none (W.iteT rfl (W.bindI (g_law09_same_ok _ _ _ hn (W.retI (W.retI h))))))))))
    · rw [q] at q'; cases q'
    · rw [q] at q'; cases q'
  · refine W.bindI (g_ref09_Decode_ok false l hl hn (fun e' i' hne' q' => ?_) (fun m' q' _ => ?_) (fun m' c q' q3 => ?_))
    · rw [q] at q'; cases q'
    · rw [q] at q'; cases q'
      refine W.bindI (W.bindI (g_law09_fixed_ok (W.iteT (by simp) (W.bindI (Same_none (W.iteT rfl (W.bindI (g_law09_same_ok _ _ _ hn (W.retI (W.retI h))))))))))
    · rw [q] at q'; cases q'; exact absurd q3 q2
  · refine W.bindI (g_ref09_Decode_ok false l hl hn (fun e' i' hne' q' => ?_) (fun m' q' q3 => ?_) (fun m' c q' q3 => ?_))
    · rw [q] at q'; cases q'
    · rw [q] at q'; cases q'; exact absurd q2 q3
    · rw [q] at q'; cases q'
      obtain ⟨f1, f2⟩ := decM_fine q
      refine W.bindI (W.bindI (g_law09_fixed_ok (W.iteT (by simp) (W.bindI (Same_ops f1 f2 (W.iteT rfl (W.bindI (g_law09_same_ok _ _ _ hn (W.retI (W.retI h))))))))))
end Go.Proofs.Ytpoakneeceaooaa.VX

set_option linter.unusedVariables false
set_option linter.unusedSimpArgs false
namespace Go.Proofs.Ytpoakneeceaooaa.VX
theorem fm_sl {N : Nat} {fs : List FS} {b : Bool} {l : Rws} (h : fmF (.sl N fs) (.sl b 0 l)) : (b = true → l = []) ∧ l.length ≤ N ∧ ∀ r ∈ l, fmR fs r := by
  unfold fmF at h
  obtain ⟨b', l', e, h1, h2, h3⟩ := h
  injection e with e1 _ e2
  subst e1 e2
  exact ⟨h1, h2, h3⟩
theorem fm_one {lo hi : Int} {r : List AV} (h : fmR [.int lo hi] r) : I1 lo hi r := by
  match r, h with
  | [x], h =>
    unfold fmR fmF at h
    obtain ⟨⟨m, rfl, h1, h2⟩, _⟩ := h
    exact ⟨m, rfl, h1, h2⟩
  | [], h => unfold fmR at h; exact h.elim
  | _ :: _ :: _, h => unfold fmR fmR at h; exact h.2.elim
theorem fm_cell {N : Nat} {fs fr : List FS} {r : List AV} {j : Nat} (h : fmR fr r) (hj : fr[j]? = some (.sl N fs)) : (cR r j).length ≤ N ∧ ∀ x ∈ cR r j, fmR fs x := by
  obtain ⟨x, hx, hf⟩ := fmR_get h hj
  have e : cR r j = x.toRows := by rw [cR, List.getD_eq_getElem?_getD, hx]; rfl
  unfold fmF at hf
  obtain ⟨b', l', rfl, _, h1, h2⟩ := hf
  rw [e]
  exact ⟨h1, h2⟩
theorem fm_ops {n : Bool} {l : Rws} (h : fmF opsF (.sl n 0 l)) : l.length ≤ 676622540150 ∧ short l ∧ formed l := by
  obtain ⟨_, h2, h3⟩ := fm_sl h
  refine ⟨h2, fun r hr => ⟨(fm_cell (j := 12) (h3 r hr) rfl).1, (fm_cell (j := 13) (h3 r hr) rfl).1⟩, fun o ho => ?_⟩
  obtain ⟨r, hr, rfl⟩ := List.mem_map.1 ho
  exact ⟨fun x hx => fm_one ((fm_cell (j := 12) (h3 r hr) rfl).2 x hx), fun x hx => fm_one ((fm_cell (j := 13) (h3 r hr) rfl).2 x hx)⟩
theorem fm_bytes {n : Bool} {l : Rws} (h : fmF bytesF (.sl n 0 l)) : byr l ∧ l.length ≤ 140737488355328 ∧ (n = true → l = []) := by
  obtain ⟨h1, h2, h3⟩ := fm_sl h
  refine ⟨fun r hr => ?_, h2, h1⟩
  obtain ⟨x, rfl, q1, q2⟩ := fm_one (h3 r hr)
  exact ⟨rfl, q1, q2⟩
theorem g_law09_PackEncodes_ok' {a b c lo hi out : Int} {nl : Bool} {l : Rws} (h : fmF opsF (.sl nl 0 l)) {R : Bool → Prop} (hR : R true) : (g_law09_PackEncodes a b c lo hi nl l out).run R :=
  g_law09_PackEncodes_ok a b c lo hi nl l out (fm_ops h).1 (fm_ops h).2.1 (fm_ops h).2.2 hR
theorem g_law09_PackDecodes_ok' {n : Bool} {l : Rws} (h : fmF bytesF (.sl n 0 l)) {R : Bool → Prop} (hR : R true) : (g_law09_PackDecodes n l).run R :=
  g_law09_PackDecodes_ok n l (fm_bytes h).1.byt (fm_bytes h).2.1 (fm_bytes h).2.2 hR
end Go.Proofs.Ytpoakneeceaooaa.VX

set_option linter.unusedVariables false
set_option linter.unusedSimpArgs false
namespace Go.Proofs.Ytpoakneeceaooaa.VX
theorem rdVi_cd {x : Int} (h : 0 ≤ x ∧ x ≤ 2147483647) : Cd rdVi (rowsB (uI x)) x (fun e => e = 40) := by
  refine Cd.cast (f := rdVi) (e := rowsB (uB x.toNat) ++ []) (a := ((x.toNat : Nat) : Int)) ?_ ?_ ?_
  · delta rdVi
    exact andE_cd (g := fun (n : Nat) r => .ok ((n : Int), r)) (rdV_cd (n := x.toNat) (by omega)) (ret_cd _ _)
  · rw [List.append_nil, uI_nat h.1 (by omega)]
  · omega
theorem rdUi_cd {max n : Nat} (h : n ≤ max) (h2 : n < 18446744073709551616) : Cd (rdUi max) (rowsB (uI (n : Int))) (n : Int) (fun e => e = 40) := by
  refine Cd.cast (f := rdUi max) (e := rowsB (uB n) ++ []) (a := (n : Int)) ?_ ?_ rfl
  · delta rdUi
    exact andE_cd (g := fun (n : Nat) r => .ok ((n : Int), r)) (rdU_cd (n := n) h h2) (ret_cd _ _)
  · rw [List.append_nil, uI_len' (by omega)]
theorem rdR_cd {lo hi x : Int} (h : lo ≤ x ∧ x ≤ hi) (h2 : in64 x) : Cd (rdR lo hi) (rowsB (uB (zz x))) x (fun e => e = 40) := by
  refine Cd.cast (f := rdR lo hi) (e := rowsB (uB (zz x)) ++ []) (a := x) ?_ (by simp) rfl
  delta rdR
  exact andE_cd (g := fun (v : Int) q => if v < lo ∨ hi < v then .error 41 else .ok (v, q)) (rdS_cd h2) ⟨fun t => if_neg (by omega), fun s t ht h => absurd (List.append_eq_nil_iff.1 h).2 ht⟩
theorem rdRow_cd {lo hi : Int} (h1 : -9223372036854775808 ≤ lo) (h2 : hi ≤ 9223372036854775807) {r : List AV} (h : I1 lo hi r) : Cd (rdRow lo hi) (rowsB (sR r)) r (fun e => e = 40) := by
  have h64 := h.in64 h1 h2
  obtain ⟨x, rfl, q⟩ := h
  refine Cd.cast (f := rdRow lo hi) (e := rowsB (uB (zz x)) ++ []) (a := [I x]) ?_ (by rw [List.append_nil]; rfl) rfl
  delta rdRow
  exact andE_cd (g := fun (v : Int) q => .ok ([I v], q)) (rdR_cd q h64) (ret_cd _ _)
theorem rdL_cd {X α : Type} {f : Rws → Except Int (α × Rws)} {enc : X → List Nat} {val : X → α} {bad : Int → Prop} {xs : List X} (h : ∀ x ∈ xs, Cd f (rowsB (enc x)) (val x) bad) : Cd (rdL f xs.length) (rowsB (xs.flatMap enc)) (xs.map val) bad := by
  have := rdMany_cd h
  constructor
  · intro t; unfold rdL; rw [this.fwd]
  · intro s t ht he
    obtain ⟨⟨e, k⟩, h1, h2⟩ := this.cut s t ht he
    exact ⟨e, by unfold rdL; rw [h1], h2⟩
theorem rdLs_cd {max : Nat} {lo hi : Int} (h1 : -9223372036854775808 ≤ lo) (h2 : hi ≤ 9223372036854775807) (hm : max ≤ 9223372036854775807) {l : Rws} (hl : l.length ≤ max) (h : ∀ r ∈ l, I1 lo hi r) :
    Cd (rdLs max lo hi) (rowsB (lB l)) (decide (l.length = 0), l) (fun e => e = 40) := by
  have hL := rdL_cd (f := rdRow lo hi) (enc := sR) (val := fun r => r) (xs := l) fun r hr => rdRow_cd h1 h2 (h r hr)
  refine Cd.cast (f := rdLs max lo hi) (e := rowsB (uI (l.length : Int)) ++ (rowsB (l.flatMap sR) ++ [])) (a := (decide ((l.length : Int) = 0), l.map fun r => r)) ?_ (by unfold lB; rw [List.append_nil, rowsB_app]) (by simp [List.map_id'])
  delta rdLs
  exact andE_cd (g := fun (n : Int) r => andE (rdL (rdRow lo hi) n.toNat r) fun ws r => .ok ((decide (n = 0), ws), r)) (rdUi_cd hl (by omega))
    (andE_cd (f := rdL (rdRow lo hi) ((l.length : Int)).toNat) (g := fun ws r => .ok ((decide ((l.length : Int) = 0), ws), r)) (by rw [Int.toNat_natCast]; exact hL) (ret_cd _ _))
/-- An op as it is read again. -/
def opRe (o : Opr) : Opr := o.flags (decide (o.ws.length = 0)) (decide (o.bs.length = 0))
theorem rowsB_flat : ∀ L : List (List Nat), rowsB L.flatten = (L.map rowsB).flatten
  | [] => rfl
  | a :: L => by rw [List.flatten_cons, rowsB_app, rowsB_flat L]; rfl
theorem oB_flat (o : Opr) : oB o = [uI o.kind, uI o.a, uI o.b, uI o.m, uI o.win.kh, uI o.win.kw, uI o.win.sh, uI o.win.sw, uI o.win.top, uI o.win.left, uI o.win.bottom, uI o.win.right, lB o.ws, lB o.bs, uI o.sam, uI o.sas, uI o.sbm, uI o.sbs, uB (zz o.zero), uB (zz o.pad), uB (zz o.lo), uB (zz o.hi)].flatten := by
  unfold oB
  simp only [List.append_assoc]
  simp only [List.flatten_cons, List.flatten_nil]
  simp only [List.append_nil]
def opRe' (o : Opr) : Opr := ⟨o.kind, o.a, o.b, o.m, ⟨o.win.kh, o.win.kw, o.win.sh, o.win.sw, o.win.top, o.win.left, o.win.bottom, o.win.right⟩, decide (o.ws.length = 0), o.ws, decide (o.bs.length = 0), o.bs, o.sam, o.sas, o.sbm, o.sbs, o.zero, o.pad, o.lo, o.hi⟩
theorem opRe_eq (o : Opr) : opRe' o = opRe o := rfl
theorem rdOp_cd {o : Opr} (h : OpOK o) : Cd rdOp (rowsB (oB o)) (opRe o) (fun e => e = 40) := by
  obtain ⟨e1, e2, e3, e4⟩ := h.e64
  rw [show rdOp = rdOpI from (funext rdOpI_eq).symm]
  apply Cd.cast (f := rdOpI) (a' := opRe o) (ha := opRe_eq o)
  case h =>
    delta rdOpI
    apply andE_cd (rdVi_cd h.n0)
    apply andE_cd (rdVi_cd h.n1)
    apply andE_cd (rdVi_cd h.n2)
    apply andE_cd (rdVi_cd h.n3)
    apply andE_cd (rdVi_cd h.n4)
    apply andE_cd (rdVi_cd h.n5)
    apply andE_cd (rdVi_cd h.n6)
    apply andE_cd (rdVi_cd h.n7)
    apply andE_cd (rdVi_cd h.n8)
    apply andE_cd (rdVi_cd h.n9)
    apply andE_cd (rdVi_cd h.n10)
    apply andE_cd (rdVi_cd h.n11)
    apply andE_cd (rdLs_cd (by decide) (by decide) (by decide) h.ws.1 h.ws.2)
    apply andE_cd (rdLs_cd (by decide) (by decide) (by decide) h.bs.1 h.bs.2)
    apply andE_cd (rdVi_cd h.m0)
    apply andE_cd (rdVi_cd h.m1)
    apply andE_cd (rdVi_cd h.m2)
    apply andE_cd (rdVi_cd h.m3)
    apply andE_cd (rdR_cd h.e0 e1)
    apply andE_cd (rdR_cd h.e1 e2)
    apply andE_cd (rdR_cd h.e2 e3)
    apply andE_cd (rdR_cd h.e3 e4)
    exact ret_cd _ _
  case he => rw [oB_flat, rowsB_flat]; rfl
/-- A model's numbers, as they are written and read. -/
structure MdlOK (m : Mdl) : Prop where
  h : 0 ≤ m.h ∧ m.h ≤ 2147483647
  w : 0 ≤ m.w ∧ m.w ≤ 2147483647
  c : 0 ≤ m.c ∧ m.c ≤ 2147483647
  lo : -2147483648 ≤ m.lo ∧ m.lo ≤ 2147483647
  hi : -2147483648 ≤ m.hi ∧ m.hi ≤ 2147483647
  n : m.ops.length ≤ 64
  ops : ∀ o ∈ m.ops, OpOK o
  out : 0 ≤ m.out ∧ m.out ≤ 2147483647
def hdB (m : Mdl) : List Nat := uI m.h ++ uI m.w ++ uI m.c ++ uB (zz m.lo) ++ uB (zz m.hi) ++ uI (m.ops.length : Int)
def bodyMB (m : Mdl) : List Nat := hdB m ++ (m.ops.flatMap oB ++ uI m.out)
def Mdl.re (m : Mdl) : Mdl := { m with ops := m.ops.map opRe }
theorem rdHd_cd {m : Mdl} (h : MdlOK m) : Cd rdHd (rowsB (hdB m)) (m.h, m.w, m.c, m.lo, m.hi, m.ops.length) (fun e => e = 40) := by
  have hlo := h.lo
  have hhi := h.hi
  have hn := h.n
  have hh := h.h
  have hw := h.w
  have hc := h.c
  apply Cd.cast (f := rdHd) (a := (((m.h.toNat : Nat) : Int), ((m.w.toNat : Nat) : Int), ((m.c.toNat : Nat) : Int), m.lo, m.hi, m.ops.length)) (ha := by rw [Int.toNat_of_nonneg hh.1, Int.toNat_of_nonneg hw.1, Int.toNat_of_nonneg hc.1])
  case h =>
    delta rdHd
    apply andE_cd (rdV_cd (n := m.h.toNat) (by omega))
    apply andE_cd (rdV_cd (n := m.w.toNat) (by omega))
    apply andE_cd (rdV_cd (n := m.c.toNat) (by omega))
    apply andE_cd (rdR_cd h.lo ⟨by omega, by omega⟩)
    apply andE_cd (rdR_cd h.hi ⟨by omega, by omega⟩)
    apply andE_cd (rdU_cd (max := 64) (n := m.ops.length) h.n (by omega))
    exact ret_cd _ _
  case he =>
    unfold hdB
    rw [uI_nat hh.1 (by omega), uI_nat hw.1 (by omega), uI_nat hc.1 (by omega), uI_len' (by omega)]
    simp only [rowsB_app, List.append_assoc, List.append_nil]
theorem bodyM_ok {m : Mdl} (hF : MdlOK m) : (∀ t, bodyM (rowsB (bodyMB m) ++ t) = if t.length = 0 then .ok m.re else .error (43, 0)) ∧
    ∀ s t, t ≠ [] → s ++ t = rowsB (bodyMB m) → ∃ i, bodyM s = .error (40, i) := by
  have ho := hF.out
  have h1 := rdHd_cd hF
  have h2 := rdMany_cd (xs := m.ops) (f := rdOp) (enc := oB) (val := opRe) fun o ho => rdOp_cd (hF.ops o ho)
  have h3 := rdV_cd (n := m.out.toNat) (by omega)
  have e3 : rowsB (uI m.out) = rowsB (uB m.out.toNat) := by rw [uI_nat ho.1 (by omega)]
  have he : rowsB (bodyMB m) = rowsB (hdB m) ++ (rowsB (m.ops.flatMap oB) ++ rowsB (uB m.out.toNat)) := by
    simp only [bodyMB, rowsB_app, e3]
  constructor
  · intro t
    rw [he, List.append_assoc, List.append_assoc]
    unfold bodyM
    rw [h1.fwd]
    dsimp only
    rw [h2.fwd]
    dsimp only
    rw [h3.fwd]
    dsimp only
    rw [Int.toNat_of_nonneg ho.1]
    rfl
  · intro s t ht h
    rw [he] at h
    unfold bodyM
    rcases app_cut ht h with ⟨t', q1, q2⟩ | ⟨s2, rfl, k2⟩
    · obtain ⟨e, q3, rfl⟩ := h1.cut s t' q1 q2
      exact ⟨0, by rw [q3]⟩
    rw [h1.fwd]
    dsimp only
    rcases app_cut ht k2 with ⟨t', q1, q2⟩ | ⟨s3, rfl, k3⟩
    · obtain ⟨⟨e, k⟩, q3, q4⟩ := h2.cut s2 t' q1 q2
      have q4 : e = 40 := q4
      subst q4
      exact ⟨k + 1, by rw [q3]⟩
    rw [h2.fwd]
    dsimp only
    obtain ⟨e, q3, rfl⟩ := h3.cut s3 t ht k3
    exact ⟨0, by rw [q3]⟩
def mBm (m : Mdl) : List Nat := mB m.h m.w m.c m.lo m.hi m.ops m.out
theorem mB_body (m : Mdl) : rowsB (mBm m) = [I 83] :: [I 87] :: [I 77] :: [I 49] :: rowsB (bodyMB m) := by
  have e : mBm m = [83, 87, 77, 49] ++ bodyMB m := by
    unfold mBm mB bodyMB hdB
    simp only [List.append_assoc]
  rw [e, rowsB_app]
  rfl
theorem magicM_go (r : Rws) : magicM ([I 83] :: [I 87] :: [I 77] :: [I 49] :: r) = true := rfl
theorem decM_go (r : Rws) : decM ([I 83] :: [I 87] :: [I 77] :: [I 49] :: r) = bodyM r := by
  unfold decM
  rw [if_neg (by simp), if_pos (magicM_go r)]
  rfl
theorem decM_fwd {m : Mdl} (hF : MdlOK m) (t : Rws) : decM (rowsB (mBm m) ++ t) = if t.length = 0 then .ok m.re else .error (43, 0) := by
  rw [mB_body]
  exact (decM_go _).trans ((bodyM_ok hF).1 t)
theorem decM_cut {m : Mdl} (hF : MdlOK m) {s t : Rws} (ht : t ≠ []) (h : s ++ t = rowsB (mBm m)) : ∃ i, decM s = .error (40, i) := by
  rw [mB_body] at h
  match s, h with
  | [], _ => exact ⟨0, rfl⟩
  | [_], _ => exact ⟨0, rfl⟩
  | [_, _], _ => exact ⟨0, rfl⟩
  | [_, _, _], _ => exact ⟨0, rfl⟩
  | a :: b :: c :: d :: s', h =>
    injection h with e1 h
    injection h with e2 h
    injection h with e3 h
    injection h with e4 h
    subst e1 e2 e3 e4
    obtain ⟨i, q⟩ := (bodyM_ok hF).2 s' t ht h
    exact ⟨i, (decM_go s').trans q⟩
theorem mB_flat (a b c lo hi : Int) (ops : List Opr) (out : Int) : mB a b c lo hi ops out = [[83, 87, 77, 49], uI a, uI b, uI c, uB (zz lo), uB (zz hi), uI (ops.length : Int), ops.flatMap oB, uI out].flatten := by
  unfold mB
  simp only [List.append_assoc]
  simp only [List.flatten_cons, List.flatten_nil]
  simp only [List.append_nil]
end Go.Proofs.Ytpoakneeceaooaa.VX

set_option linter.unusedVariables false
set_option linter.unusedSimpArgs false
namespace Go.Proofs.Ytpoakneeceaooaa.VX
theorem rdVi_inv {x : Int} {l r : Rws} (hb : byr l) (h : rdVi l = .ok (x, r)) : l = rowsB (uI x) ++ r := by
  obtain ⟨v, r1, h1, h⟩ := andE_inv h
  cases h
  obtain ⟨q1, q2⟩ := rdV_inv hb h1
  rw [uI_len' (by omega)]
  exact q1
theorem rdUi_inv {max : Nat} (hm : max < 18446744073709551616) {x : Int} {l r : Rws} (hb : byr l) (h : rdUi max l = .ok (x, r)) : l = rowsB (uI x) ++ r ∧ 0 ≤ x := by
  obtain ⟨v, r1, h1, h⟩ := andE_inv h
  cases h
  obtain ⟨q1, q2⟩ := rdU_inv hb h1
  rw [uI_len' (by omega)]
  exact ⟨q1, by omega⟩
theorem rdR_inv {lo hi x : Int} {l r : Rws} (hb : byr l) (h : rdR lo hi l = .ok (x, r)) : l = rowsB (uB (zz x)) ++ r := by
  obtain ⟨v, r1, h1, h⟩ := andE_inv h
  split at h
  · cases h
  · cases h; exact (rdS_inv hb h1).1
theorem rdRow_inv {lo hi : Int} {l r : Rws} {x : List AV} (hb : byr l) (h : rdRow lo hi l = .ok (x, r)) : l = rowsB (sR x) ++ r ∧ True := by
  obtain ⟨v, r1, h1, h⟩ := andE_inv h
  cases h
  exact ⟨rdR_inv hb h1, trivial⟩
theorem rdL_inv {α : Type} {f : Rws → Except Int (α × Rws)} {enc : α → List Nat} (hf : ∀ {l r : Rws} {a : α}, byr l → f l = .ok (a, r) → l = rowsB (enc a) ++ r ∧ True) {n : Nat} {l r : Rws} {xs : List α} (hb : byr l) (h : rdL f n l = .ok (xs, r)) : l = rowsB (xs.flatMap enc) ++ r ∧ xs.length = n := by
  unfold rdL at h
  cases hm : rdMany f n l with
  | error e => rw [hm] at h; cases h
  | ok y =>
    rw [hm] at h
    cases h
    have := rdMany_inv (P := fun _ => True) hf hb hm
    exact ⟨this.1, this.2.1⟩
theorem rdLs_inv {max : Nat} (hm : max < 18446744073709551616) {lo hi : Int} {l r : Rws} {x : Bool × Rws} (hb : byr l) (h : rdLs max lo hi l = .ok (x, r)) : l = rowsB (lB x.2) ++ r := by
  obtain ⟨n, r1, h1, h⟩ := andE_inv h
  obtain ⟨ws, r2, h2, h⟩ := andE_inv h
  cases h
  obtain ⟨q1, q2⟩ := rdUi_inv hm hb h1
  obtain ⟨q3, q4⟩ := rdL_inv (fun hb h => rdRow_inv hb h) (hb.app q1) h2
  have en : (ws.length : Int) = n := by omega
  show l = rowsB (uI (ws.length : Int) ++ ws.flatMap sR) ++ r
  rw [rowsB_app, List.append_assoc, ← q3, en]
  exact q1
theorem cons_inv {l e r r' : Rws} {L : List Rws} (h : l = e ++ r) (h' : r = L.flatten ++ r') : l = (e :: L).flatten ++ r' := by
  rw [List.flatten_cons, List.append_assoc, ← h']; exact h
theorem nil_inv (r : Rws) : r = ([] : List Rws).flatten ++ r := rfl
theorem rdOp_inv {l r : Rws} {o : Opr} (hb : byr l) (h : rdOp l = .ok (o, r)) : l = rowsB (oB o) ++ r ∧ OpOK o := by
  refine ⟨?_, (rdOp_fine h).1⟩
  rw [← rdOpI_eq] at h
  unfold rdOpI at h
  obtain ⟨x0, q0, h0, h⟩ := andE_inv h
  obtain ⟨x1, q1, h1, h⟩ := andE_inv h
  obtain ⟨x2, q2, h2, h⟩ := andE_inv h
  obtain ⟨x3, q3, h3, h⟩ := andE_inv h
  obtain ⟨x4, q4, h4, h⟩ := andE_inv h
  obtain ⟨x5, q5, h5, h⟩ := andE_inv h
  obtain ⟨x6, q6, h6, h⟩ := andE_inv h
  obtain ⟨x7, q7, h7, h⟩ := andE_inv h
  obtain ⟨x8, q8, h8, h⟩ := andE_inv h
  obtain ⟨x9, q9, h9, h⟩ := andE_inv h
  obtain ⟨x10, q10, h10, h⟩ := andE_inv h
  obtain ⟨x11, q11, h11, h⟩ := andE_inv h
  obtain ⟨ws, q12, h12, h⟩ := andE_inv h
  obtain ⟨bs, q13, h13, h⟩ := andE_inv h
  obtain ⟨y0, q14, h14, h⟩ := andE_inv h
  obtain ⟨y1, q15, h15, h⟩ := andE_inv h
  obtain ⟨y2, q16, h16, h⟩ := andE_inv h
  obtain ⟨y3, q17, h17, h⟩ := andE_inv h
  obtain ⟨z0, q18, h18, h⟩ := andE_inv h
  obtain ⟨z1, q19, h19, h⟩ := andE_inv h
  obtain ⟨z2, q20, h20, h⟩ := andE_inv h
  obtain ⟨z3, q21, h21, h⟩ := andE_inv h
  cases h
  have e0 := rdVi_inv hb h0; have b0 := hb.app e0
  have e1 := rdVi_inv b0 h1; have b1 := b0.app e1
  have e2 := rdVi_inv b1 h2; have b2 := b1.app e2
  have e3 := rdVi_inv b2 h3; have b3 := b2.app e3
  have e4 := rdVi_inv b3 h4; have b4 := b3.app e4
  have e5 := rdVi_inv b4 h5; have b5 := b4.app e5
  have e6 := rdVi_inv b5 h6; have b6 := b5.app e6
  have e7 := rdVi_inv b6 h7; have b7 := b6.app e7
  have e8 := rdVi_inv b7 h8; have b8 := b7.app e8
  have e9 := rdVi_inv b8 h9; have b9 := b8.app e9
  have e10 := rdVi_inv b9 h10; have b10 := b9.app e10
  have e11 := rdVi_inv b10 h11; have b11 := b10.app e11
  have e12 := rdLs_inv (by decide) b11 h12; have b12 := b11.app e12
  have e13 := rdLs_inv (by decide) b12 h13; have b13 := b12.app e13
  have e14 := rdVi_inv b13 h14; have b14 := b13.app e14
  have e15 := rdVi_inv b14 h15; have b15 := b14.app e15
  have e16 := rdVi_inv b15 h16; have b16 := b15.app e16
  have e17 := rdVi_inv b16 h17; have b17 := b16.app e17
  have e18 := rdR_inv b17 h18; have b18 := b17.app e18
  have e19 := rdR_inv b18 h19; have b19 := b18.app e19
  have e20 := rdR_inv b19 h20; have b20 := b19.app e20
  have e21 := rdR_inv b20 h21
  rw [oB_flat, rowsB_flat]
  exact cons_inv e0 (cons_inv e1 (cons_inv e2 (cons_inv e3 (cons_inv e4 (cons_inv e5 (cons_inv e6 (cons_inv e7 (cons_inv e8 (cons_inv e9 (cons_inv e10 (cons_inv e11 (cons_inv e12 (cons_inv e13
    (cons_inv e14 (cons_inv e15 (cons_inv e16 (cons_inv e17 (cons_inv e18 (cons_inv e19 (cons_inv e20 (cons_inv e21 (nil_inv r))))))))))))))))))))))
theorem rdHd_inv {l r : Rws} {h w c lo hi : Int} {n : Nat} (hb : byr l) (e : rdHd l = .ok ((h, w, c, lo, hi, n), r)) : l = ([uI h, uI w, uI c, uB (zz lo), uB (zz hi), uI (n : Int)].map rowsB).flatten ++ r := by
  have e : rdHdI l = .ok ((h, w, c, lo, hi, (n : Int)), r) := by rw [rdHdI_eq, e]; rfl
  obtain ⟨x0, q0, h0, e⟩ := andE_inv e
  obtain ⟨x1, q1, h1, e⟩ := andE_inv e
  obtain ⟨x2, q2, h2, e⟩ := andE_inv e
  obtain ⟨x3, q3, h3, e⟩ := andE_inv e
  obtain ⟨x4, q4, h4, e⟩ := andE_inv e
  obtain ⟨x5, q5, h5, e⟩ := andE_inv e
  simp only [Except.ok.injEq, Prod.mk.injEq] at e
  obtain ⟨⟨rfl, rfl, rfl, rfl, rfl, rfl⟩, rfl⟩ := e
  have e0 := rdVi_inv hb h0; have b0 := hb.app e0
  have e1 := rdVi_inv b0 h1; have b1 := b0.app e1
  have e2 := rdVi_inv b1 h2; have b2 := b1.app e2
  have e3 := rdR_inv b2 h3; have b3 := b2.app e3
  have e4 := rdR_inv b3 h4; have b4 := b3.app e4
  have e5 := (rdUi_inv (by decide) b4 h5).1
  exact cons_inv e0 (cons_inv e1 (cons_inv e2 (cons_inv e3 (cons_inv e4 (cons_inv e5 (nil_inv _))))))
theorem flat_app {L : List Rws} {a r : Rws} : (a :: L).flatten ++ r = a ++ (L.flatten ++ r) := by rw [List.flatten_cons, List.append_assoc]
theorem bodyM_inv {l : Rws} {m : Mdl} (hb : byr l) (h : bodyM l = .ok m) : [I 83] :: [I 87] :: [I 77] :: [I 49] :: l = rowsB (mBm m) := by
  unfold bodyM at h
  split at h
  · cases h
  · rename_i hH
    have e1 := rdHd_inv hb hH
    have b1 := hb.app e1
    split at h
    · cases h
    · rename_i hm
      obtain ⟨e2, e2', _⟩ := rdMany_inv (enc := oB) (P := OpOK) (fun hb h => rdOp_inv hb h) b1 hm
      have b2 := b1.app e2
      split at h
      · cases h
      · rename_i hv
        have e3 := rdV_inv b2 hv
        split at h
        · rename_i h0
          cases h
          have h0 := List.length_eq_zero_iff.1 h0
          obtain ⟨e3, e3v⟩ := e3
          rw [h0, ← uI_len' (by omega)] at e3
          unfold mBm
          dsimp only
          rw [mB_flat, rowsB_flat]
          have key : ∀ {x A B C D E F G H M : Rws}, x = [A, B, C, D, E, F].flatten ++ (G ++ (H ++ [])) → M ++ x = [M, A, B, C, D, E, F, G, H].flatten := fun {x A B C D E F G H M} e => by
            rw [e]
            simp only [List.flatten_cons, List.flatten_nil, List.append_assoc, List.nil_append]
          have e4 := e1
          rw [e2, e3] at e4
          rw [← e2'] at e4
          exact key (M := rowsB [83, 87, 77, 49]) e4
        · cases h
theorem magicM_inv {l : Rws} (hb : byr l) (h : ¬ l.length < 4) (hm : magicM l = true) : l = [I 83] :: [I 87] :: [I 77] :: [I 49] :: l.drop 4 := by
  match l, h with
  | r0 :: r1 :: r2 :: r3 :: rest, _ =>
    have h0 := (hb r0 (by simp)).1
    have h1 := (hb r1 (by simp)).1
    have h2 := (hb r2 (by simp)).1
    have h3 := (hb r3 (by simp)).1
    unfold magicM at hm
    simp only [Bool.and_eq_true, beq_iff_eq] at hm
    obtain ⟨m0, m1, m2, m3⟩ := hm
    have m0 : cI r0 0 = 83 := m0
    have m1 : cI r1 0 = 87 := m1
    have m2 : cI r2 0 = 77 := m2
    have m3 : cI r3 0 = 49 := m3
    rw [m0] at h0
    rw [m1] at h1
    rw [m2] at h2
    rw [m3] at h3
    rw [h0, h1, h2, h3]
    rfl
  | [], h => exact absurd (by simp) h
  | [_], h => exact absurd (by simp) h
  | [_, _], h => exact absurd (by simp) h
  | [_, _, _], h => exact absurd (by simp) h
theorem decM_inv {l : Rws} {m : Mdl} (hb : byr l) (h : decM l = .ok m) : l = rowsB (mBm m) := by
  unfold decM at h
  split at h
  · cases h
  · rename_i hlen
    split at h
    · rename_i hm
      rw [← bodyM_inv (fun r hr => hb r (List.mem_of_mem_drop hr)) h]
      exact magicM_inv hb hlen hm
    · cases h
theorem formed_rows {ops : List Opr} (h : ∀ o ∈ ops, OpOK o) : formed (ops.map Opr.row) := by
  unfold formed
  rw [oprs_rows]
  exact fun o ho => ⟨(h o ho).ws.2, (h o ho).bs.2⟩
theorem g_law09_PackForms_ok (n : Bool) (l : Rws) (hb : byr l) (hl : l.length ≤ 140737488355328) (hn : n = true → l = []) {R : Bool → Prop} (h : R true) : (g_law09_PackForms n l).run R := by
  unfold g_law09_PackForms
  refine W.bindI (g_pack_Decode_ok n l hb.byt hl hn (fun e i hne q => ?_) (fun m q q2 => ?_) (fun m c q q2 => ?_))
  · refine W.bindI (g_law09_fixed_ok (W.iteT (by simp [hne]) (W.bindI (W.bindI (g_law09_fixed_ok (W.iteT rfl (W.bindI (Same_none (W.retI (W.retI h))))))))))
  · refine W.bindI (g_law09_fixed_ok (W.iteT (by simp [q2]) (W.bindI (W.bindI (g_law09_fixed_ok (W.iteT rfl (W.bindI (Same_none (W.retI (W.retI h))))))))))
  · have hf := decM_fine q
    have hi := decM_inv hb q
    refine W.bindI (g_law09_fixed_ok (W.iteF (by simp) ?_))
    have hlen : (m.ops.map Opr.row).length ≤ 676622540150 := by rw [List.length_map]; omega
    refine W.bindI (g_pack_Encode_ok m.h m.w m.c m.lo m.hi c (m.ops.map Opr.row) m.out hlen (OpOK.of_rows rfl hf.2) (formed_rows hf.2) (fun e => ?_) (fun e => ?_))
    · rw [oprs_rows] at e; exact absurd q2 e
    · rw [oprs_rows]
      refine W.bindI (W.iteT (by simp) ?_)
      have e : rowsB (mB m.h m.w m.c m.lo m.hi m.ops m.out) = l := hi.symm
      dsimp only
      rw [e]
      exact W.bindI (g_law09_same_ok _ _ _ hl (W.retI (W.retI h)))
theorem g_law09_PackForms_ok' {n : Bool} {l : Rws} (h : fmF bytesF (.sl n 0 l)) {R : Bool → Prop} (hR : R true) : (g_law09_PackForms n l).run R :=
  g_law09_PackForms_ok n l (fm_bytes h).1 (fm_bytes h).2.1 (fm_bytes h).2.2 hR
end Go.Proofs.Ytpoakneeceaooaa.VX
