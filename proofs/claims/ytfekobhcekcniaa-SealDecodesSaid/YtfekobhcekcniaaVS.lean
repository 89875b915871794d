/- The pure forms of the functions. -/
import Derived.Test.YtfekobhcekcniaaVX2
import Derived.Test.YtfekobhcekcniaaProg
import Derived.KernelRfl
set_option linter.unusedVariables false
set_option linter.unusedSimpArgs false
namespace Go.Proofs.Ytfekobhcekcniaa.V16
open Go.Proofs Go.Proofs.Ytfekobhcekcniaa.VX
def tab : Tab :=
 [(1, ⟨.other, 1, 8, [.nilf], none, false⟩),
  (2, ⟨.int .i64, 1, 8, [.int .i64 0], some [.int .i64], true⟩),
  (3, ⟨.int .i64, 1, 8, [.int .i64 0], some [.int .i64], true⟩),
  (4, ⟨.bool, 1, 1, [.kb false], some [.bool], true⟩),
  (5, ⟨.int .u8, 1, 1, [.int .u8 0], some [.int .u8], true⟩),
  (6, ⟨.int .u8, 1, 1, [.int .u8 0], some [.int .u8], true⟩),
  (7, ⟨.struct [(2, 0, 1, false), (3, 1, 1, false), (4, 2, 1, false), (6, 3, 1, false)], 4, 24, [.int .i64 0, .int .i64 0, .kb false, .int .u8 0], some [.int .i64, .int .i64, .bool, .int .u8], true⟩),
  (8, ⟨.struct [(2, 0, 1, false), (3, 1, 1, false), (4, 2, 1, false), (6, 3, 1, false)], 4, 24, [.int .i64 0, .int .i64 0, .kb false, .int .u8 0], some [.int .i64, .int .i64, .bool, .int .u8], true⟩),
  (9, ⟨.str, 1, 16, [.str .empty], some [.str], true⟩),
  (10, ⟨.str, 1, 16, [.str .empty], some [.str], true⟩),
  (11, ⟨.str, 1, 16, [.str .empty], some [.str], true⟩),
  (12, ⟨.int .u64, 1, 8, [.int .u64 0], some [.int .u64], true⟩),
  (13, ⟨.struct [(9, 0, 1, false), (12, 1, 1, false)], 2, 24, [.str .empty, .int .u64 0], some [.str, .int .u64], false⟩),
  (14, ⟨.struct [(9, 0, 1, false), (12, 1, 1, false)], 2, 24, [.str .empty, .int .u64 0], some [.str, .int .u64], false⟩),
  (15, ⟨.ptr 105, 1, 8, [.nilp], none, false⟩),
  (16, ⟨.ptr 108, 1, 8, [.nilp], none, false⟩),
  (17, ⟨.ptr 117, 1, 8, [.nilp], none, false⟩),
  (18, ⟨.struct [(17, 0, 1, false)], 1, 8, [.nilp], none, false⟩),
  (19, ⟨.struct [(17, 0, 1, false)], 1, 8, [.nilp], none, false⟩),
  (20, ⟨.other, 1, 16, [.nili], none, false⟩),
  (21, ⟨.int .i32, 1, 4, [.int .i32 0], some [.int .i32], true⟩),
  (22, ⟨.slice 43, 1, 24, [.nils], some [.sl 43], false⟩),
  (23, ⟨.slice 44, 1, 24, [.nils], some [.sl 44], false⟩),
  (24, ⟨.struct [(22, 0, 1, false), (23, 1, 1, false)], 2, 48, [.nils, .nils], some [.sl 43, .sl 44], false⟩),
  (25, ⟨.struct [(22, 0, 1, false), (23, 1, 1, false)], 2, 48, [.nils, .nils], some [.sl 43, .sl 44], false⟩),
  (26, ⟨.other, 1, 8, [.nilf], none, false⟩),
  (27, ⟨.slice 5, 1, 24, [.nils], some [.sl 5], false⟩),
  (28, ⟨.int .i64, 1, 8, [.int .i64 0], some [.int .i64], true⟩),
  (29, ⟨.struct [(28, 0, 1, false), (3, 1, 1, false), (3, 2, 1, false)], 3, 24, [.int .i64 0, .int .i64 0, .int .i64 0], some [.int .i64, .int .i64, .int .i64], true⟩),
  (30, ⟨.struct [(28, 0, 1, false), (3, 1, 1, false), (3, 2, 1, false)], 3, 24, [.int .i64 0, .int .i64 0, .int .i64 0], some [.int .i64, .int .i64, .int .i64], true⟩),
  (32, ⟨.other, 1, 8, [.nilf], none, false⟩),
  (33, ⟨.other, 1, 8, [.nilf], none, false⟩),
  (34, ⟨.other, 1, 8, [.nilf], none, false⟩),
  (35, ⟨.other, 1, 8, [.nilf], none, false⟩),
  (36, ⟨.other, 1, 8, [.nilf], none, false⟩),
  (38, ⟨.other, 1, 8, [.nilf], none, false⟩),
  (39, ⟨.other, 1, 8, [.nilf], none, false⟩),
  (40, ⟨.int .u64, 1, 8, [.int .u64 0], some [.int .u64], true⟩),
  (41, ⟨.other, 1, 8, [.nilf], none, false⟩),
  (42, ⟨.struct [(2, 0, 1, false), (2, 1, 1, false)], 2, 16, [.int .i64 0, .int .i64 0], some [.int .i64, .int .i64], true⟩),
  (43, ⟨.struct [(2, 0, 1, false), (2, 1, 1, false)], 2, 16, [.int .i64 0, .int .i64 0], some [.int .i64, .int .i64], true⟩),
  (44, ⟨.slice 46, 1, 24, [.nils], some [.sl 46], false⟩),
  (45, ⟨.struct [(3, 0, 1, false), (3, 1, 1, false), (43, 2, 2, false), (43, 4, 2, false)], 6, 48, [.int .i64 0, .int .i64 0, .int .i64 0, .int .i64 0, .int .i64 0, .int .i64 0], some [.int .i64, .int .i64, .int .i64, .int .i64, .int .i64, .int .i64], true⟩),
  (46, ⟨.struct [(3, 0, 1, false), (3, 1, 1, false), (43, 2, 2, false), (43, 4, 2, false)], 6, 48, [.int .i64 0, .int .i64 0, .int .i64 0, .int .i64 0, .int .i64 0, .int .i64 0], some [.int .i64, .int .i64, .int .i64, .int .i64, .int .i64, .int .i64], true⟩),
  (47, ⟨.other, 1, 8, [.nilf], none, false⟩),
  (48, ⟨.other, 1, 8, [.nilf], none, false⟩),
  (49, ⟨.other, 1, 8, [.nilf], none, false⟩),
  (50, ⟨.other, 1, 8, [.nilf], none, false⟩),
  (51, ⟨.int .u64, 1, 8, [.int .u64 0], some [.int .u64], true⟩),
  (52, ⟨.other, 1, 8, [.nilf], none, false⟩),
  (53, ⟨.other, 1, 8, [.nilf], none, false⟩),
  (54, ⟨.struct [(28, 0, 1, false), (3, 1, 1, false), (3, 2, 1, false)], 3, 24, [.int .i64 0, .int .i64 0, .int .i64 0], some [.int .i64, .int .i64, .int .i64], true⟩),
  (56, ⟨.ptr 59, 1, 8, [.nilp], none, false⟩),
  (57, ⟨.ptr 87, 1, 8, [.nilp], none, false⟩),
  (58, ⟨.struct [(57, 0, 1, false), (30, 1, 3, false)], 4, 32, [.nilp, .int .i64 0, .int .i64 0, .int .i64 0], none, false⟩),
  (59, ⟨.struct [(57, 0, 1, false), (30, 1, 3, false)], 4, 32, [.nilp, .int .i64 0, .int .i64 0, .int .i64 0], none, false⟩),
  (60, ⟨.other, 1, 8, [.nilf], none, false⟩),
  (61, ⟨.other, 1, 8, [.nilf], none, false⟩),
  (62, ⟨.other, 1, 8, [.nilf], none, false⟩),
  (63, ⟨.other, 1, 8, [.nilf], none, false⟩),
  (64, ⟨.other, 1, 8, [.nilf], none, false⟩),
  (65, ⟨.other, 1, 8, [.nilf], none, false⟩),
  (67, ⟨.other, 1, 8, [.nilf], none, false⟩),
  (68, ⟨.ptr 72, 1, 8, [.nilp], none, false⟩),
  (69, ⟨.struct [(27, 0, 1, false), (3, 1, 1, false)], 2, 32, [.nils, .int .i64 0], some [.sl 5, .int .i64], false⟩),
  (70, ⟨.struct [(27, 0, 1, false), (3, 1, 1, false)], 2, 32, [.nils, .int .i64 0], some [.sl 5, .int .i64], false⟩),
  (71, ⟨.struct [(70, 0, 2, false), (3, 2, 1, false), (3, 3, 1, false), (30, 4, 3, false)], 7, 72, [.nils, .int .i64 0, .int .i64 0, .int .i64 0, .int .i64 0, .int .i64 0, .int .i64 0], some [.sl 5, .int .i64, .int .i64, .int .i64, .int .i64, .int .i64, .int .i64], false⟩),
  (72, ⟨.struct [(70, 0, 2, false), (3, 2, 1, false), (3, 3, 1, false), (30, 4, 3, false)], 7, 72, [.nils, .int .i64 0, .int .i64 0, .int .i64 0, .int .i64 0, .int .i64 0, .int .i64 0], some [.sl 5, .int .i64, .int .i64, .int .i64, .int .i64, .int .i64, .int .i64], false⟩),
  (73, ⟨.other, 1, 8, [.nilf], none, false⟩),
  (74, ⟨.other, 1, 8, [.nilf], none, false⟩),
  (75, ⟨.other, 1, 8, [.nilf], none, false⟩),
  (76, ⟨.other, 1, 8, [.nilf], none, false⟩),
  (77, ⟨.other, 1, 8, [.nilf], none, false⟩),
  (78, ⟨.other, 1, 8, [.nilf], none, false⟩),
  (79, ⟨.other, 1, 8, [.nilf], none, false⟩),
  (80, ⟨.other, 1, 8, [.nilf], none, false⟩),
  (81, ⟨.other, 1, 8, [.nilf], none, false⟩),
  (82, ⟨.ptr 85, 1, 8, [.nilp], none, false⟩),
  (83, ⟨.other, 1, 8, [.nilf], none, false⟩),
  (84, ⟨.struct [(27, 0, 1, false), (3, 1, 1, false)], 2, 32, [.nils, .int .i64 0], some [.sl 5, .int .i64], false⟩),
  (85, ⟨.struct [(27, 0, 1, false), (3, 1, 1, false)], 2, 32, [.nils, .int .i64 0], some [.sl 5, .int .i64], false⟩),
  (86, ⟨.struct [(82, 0, 1, false), (28, 1, 1, false)], 2, 16, [.nilp, .int .i64 0], none, false⟩),
  (87, ⟨.struct [(82, 0, 1, false), (28, 1, 1, false)], 2, 16, [.nilp, .int .i64 0], none, false⟩),
  (88, ⟨.other, 1, 8, [.nilf], none, false⟩),
  (89, ⟨.other, 1, 8, [.nilf], none, false⟩),
  (90, ⟨.ptr 70, 1, 8, [.nilp], none, false⟩),
  (91, ⟨.slice 27, 1, 24, [.nils], some [.sl 27], false⟩),
  (92, ⟨.other, 1, 8, [.nilf], none, false⟩),
  (93, ⟨.other, 1, 8, [.nilf], none, false⟩),
  (94, ⟨.other, 1, 8, [.nilf], none, false⟩),
  (95, ⟨.other, 1, 8, [.nilf], none, false⟩),
  (97, ⟨.other, 1, 8, [.nilf], none, false⟩),
  (98, ⟨.other, 1, 8, [.nilf], none, false⟩),
  (99, ⟨.other, 1, 8, [.nilf], none, false⟩),
  (101, ⟨.other, 1, 8, [.nilf], none, false⟩),
  (102, ⟨.other, 1, 8, [.nilf], none, false⟩),
  (103, ⟨.other, 1, 8, [.nilf], none, false⟩),
  (104, ⟨.struct [(17, 0, 1, false), (17, 1, 1, false), (17, 2, 1, false), (9, 3, 1, false)], 4, 40, [.nilp, .nilp, .nilp, .str .empty], none, false⟩),
  (105, ⟨.struct [(17, 0, 1, false), (17, 1, 1, false), (17, 2, 1, false), (9, 3, 1, false)], 4, 40, [.nilp, .nilp, .nilp, .str .empty], none, false⟩),
  (106, ⟨.arr 0 16, 0, 0, [], none, false⟩),
  (107, ⟨.struct [(106, 0, 0, true)], 0, 0, [], none, false⟩),
  (108, ⟨.struct [(106, 0, 0, true)], 0, 0, [], none, false⟩),
  (109, ⟨.int .u32, 1, 4, [.int .u32 0], some [.int .u32], true⟩),
  (110, ⟨.int .u8, 1, 1, [.int .u8 0], some [.int .u8], true⟩),
  (111, ⟨.int .u8, 1, 1, [.int .u8 0], some [.int .u8], true⟩),
  (112, ⟨.other, 1, 8, [.nilf], none, false⟩),
  (113, ⟨.ptr 5, 1, 8, [.nilp], none, false⟩),
  (114, ⟨.int .i32, 1, 4, [.int .i32 0], some [.int .i32], true⟩),
  (115, ⟨.int .i32, 1, 4, [.int .i32 0], some [.int .i32], true⟩),
  (116, ⟨.struct [(12, 0, 1, false), (12, 1, 1, false), (109, 2, 1, false), (110, 3, 1, false), (5, 4, 1, false), (5, 5, 1, false), (111, 6, 1, false), (112, 7, 1, false), (113, 8, 1, false), (114, 9, 1, false), (115, 10, 1, false)], 11, 48, [.int .u64 0, .int .u64 0, .int .u32 0, .int .u8 0, .int .u8 0, .int .u8 0, .int .u8 0, .nilf, .nilp, .int .i32 0, .int .i32 0], none, false⟩),
  (117, ⟨.struct [(12, 0, 1, false), (12, 1, 1, false), (109, 2, 1, false), (110, 3, 1, false), (5, 4, 1, false), (5, 5, 1, false), (111, 6, 1, false), (112, 7, 1, false), (113, 8, 1, false), (114, 9, 1, false), (115, 10, 1, false)], 11, 48, [.int .u64 0, .int .u64 0, .int .u32 0, .int .u8 0, .int .u8 0, .int .u8 0, .int .u8 0, .nilf, .nilp, .int .i32 0, .int .i32 0], none, false⟩),
  (118, ⟨.other, 1, 8, [.nilp], none, false⟩)]
def mv : FuncId → List Nat := mvOf [(18, [0]), (40, [0]), (41, [0])]
def bodyOf (f : Option Func) : Code := match f with | some x => (match x.body with | some c => c | none => .skip) | none => .skip
theorem tab_ok : tabOK Try.prog tab = true := by kernel_rfl
theorem mixed_ : Try.prog.follows .mixedOrders = true := by kernel_rfl
end Go.Proofs.Ytfekobhcekcniaa.V16

set_option linter.unusedVariables false
namespace Go.Proofs.Ytfekobhcekcniaa.VX
/-- spillway/spillwayref15.Copy -/
def g_ref15_Copy (a0 : Bool) (a1 : Rws) (a2 : Bool) (a3 : Rws) : W (Bool × Rws × Bool × Rws) :=
 W.bind (W.loop (σ := Int × Bool × Rws) (ε := Bool × Rws) (fun v0 =>
 W.ite (decide (v0.fst < (↑(List.length a3) : Int))) (W.need (0 ≤ v0.fst ∧ v0.fst < (↑(List.length a3) : Int)) <|
 W.need ((0 + List.length (rr a3 v0.fst.toNat 0)) * 48 ≤ 140737488355328) <|
 W.need ((List.length v0.snd.snd + 1) * 24 ≤ 140737488355328) <|
 W.ret (Sum.inl (IntKind.i64.wrap (v0.fst + 1), v0.snd.fst && false, v0.snd.snd ++ [[AV.sl false 0 (rr a3 v0.fst.toNat 0)]])))
 (W.ret (Sum.inr (v0.snd.fst, v0.snd.snd)))) (0, true, []))
 (fun v1 =>
 W.need ((0 + List.length a1) * 16 ≤ 140737488355328) <|
 W.ret (false, a1, v1.fst, v1.snd))

/-- spillway/seal.check -/
def g_seal_check (a0 : Bool) (a1 : Rws) (a2 : Bool) (a3 : Rws) : W (Int × Int × Int) :=
 W.ite (decide (65 < (↑(List.length a1) : Int)) || decide (64 < (↑(List.length a3) : Int))) (W.ret (42, 0, 0))
 (W.bind (W.loop (σ := Int) (ε := (Int × Int × Int) ⊕ (Unit)) (fun v0 =>
 W.ite (decide (v0 < (↑(List.length a3) : Int))) (W.need (0 ≤ v0 ∧ v0 < (↑(List.length a3) : Int)) <|
 W.ite (decide (1024 < (↑(List.length (rr a3 v0.toNat 0)) : Int))) (W.ret (Sum.inr (Sum.inl (42, IntKind.i64.wrap (v0 + 1), 0))))
 (W.bind (W.loop (σ := Int) (ε := (Int × Int × Bool × Int × Nat × Int × Int × Int × Int × Int × Int × Int × Int × Int × Bool × Bool × Bool × Int × Int × Int × Int × Int × Int × Int × Int × Int × Int) ⊕ (Int × Bool)) (fun v1 =>
 W.ite (decide (v1 < (↑(List.length (rr a3 v0.toNat 0)) : Int))) (W.need (0 ≤ v1 ∧ v1 < (↑(List.length (rr a3 v0.toNat 0)) : Int)) <|
 W.ite (decide (imin false (ri (rr a3 v0.toNat 0) v1.toNat 0) (ri (rr a3 v0.toNat 0) v1.toNat 1) < 0) || decide (2147483647 < imin true (ri (rr a3 v0.toNat 0) v1.toNat 0) (ri (rr a3 v0.toNat 0) v1.toNat 1))) (W.ret (Sum.inr (Sum.inl (v1, v1, decide (v1 < (↑(List.length (rr a3 v0.toNat 0)) : Int)), v1, v1.toNat, ri (rr a3 v0.toNat 0) v1.toNat 0, ri (rr a3 v0.toNat 0) v1.toNat 1, ri (rr a3 v0.toNat 0) v1.toNat 2, ri (rr a3 v0.toNat 0) v1.toNat 3, ri (rr a3 v0.toNat 0) v1.toNat 4, ri (rr a3 v0.toNat 0) v1.toNat 5, ri (rr a3 v0.toNat 0) v1.toNat 0, ri (rr a3 v0.toNat 0) v1.toNat 1, imin false (ri (rr a3 v0.toNat 0) v1.toNat 0) (ri (rr a3 v0.toNat 0) v1.toNat 1), decide (imin false (ri (rr a3 v0.toNat 0) v1.toNat 0) (ri (rr a3 v0.toNat 0) v1.toNat 1) < 0), decide (imin false (ri (rr a3 v0.toNat 0) v1.toNat 0) (ri (rr a3 v0.toNat 0) v1.toNat 1) < 0), decide (imin false (ri (rr a3 v0.toNat 0) v1.toNat 0) (ri (rr a3 v0.toNat 0) v1.toNat 1) < 0) || decide (2147483647 < imin true (ri (rr a3 v0.toNat 0) v1.toNat 0) (ri (rr a3 v0.toNat 0) v1.toNat 1)), v1, IntKind.i64.wrap (v1 + 1), IntKind.i64.wrap (v1 + 1), IntKind.i64.wrap (v1 + 1), ri (rr a3 v0.toNat 0) v1.toNat 0, ri (rr a3 v0.toNat 0) v1.toNat 1, ri (rr a3 v0.toNat 0) v1.toNat 2, ri (rr a3 v0.toNat 0) v1.toNat 3, ri (rr a3 v0.toNat 0) v1.toNat 4, ri (rr a3 v0.toNat 0) v1.toNat 5))))
 (W.ret (Sum.inl (IntKind.i64.wrap (v1 + 1)))))
 (W.ret (Sum.inr (Sum.inr (v1, decide (v1 < (↑(List.length (rr a3 v0.toNat 0)) : Int))))))) 0)
 (W.sum (fun v2 =>
 W.ret (Sum.inr (Sum.inl (2, IntKind.i64.wrap (v0 + 1), v2.snd.snd.snd.snd.snd.snd.snd.snd.snd.snd.snd.snd.snd.snd.snd.snd.snd.snd.snd.snd.fst)))) (fun v3 =>
 W.ret (Sum.inl (IntKind.i64.wrap (v0 + 1)))))))
 (W.ret (Sum.inr (Sum.inr ())))) 0)
 (W.sum (fun v4 =>
 W.ret (v4.fst, v4.snd.fst, v4.snd.snd)) (fun v5 =>
 W.ret (0, 0, 0))))

/-- slices.Grow[[]byte,byte] -/
def g_slices_Grow___byte_byte__z (a0 : Int) : W (Bool × Rws) :=
 W.ite (decide (a0 < 0)) (W.need (False) <|
 W.fail)
 (W.ite (decide (0 < IntKind.i64.wrap (a0 - 0))) (W.need (0 < IntKind.i64.wrap (a0 - 0) ∧ IntKind.i64.wrap (a0 - 0) ≤ 9223372036854775807 ∧ IntKind.i64.wrap (a0 - 0) * 1 ≤ 140737488355328) <|
 W.need ((0 : Int) ≤ (0 : Int) ∧ (0 : Int) ≤ (0 : Int) ∧ (0 : Int) ≤ (↑(List.replicate (IntKind.i64.wrap (a0 - (0 : Int))).toNat [I (0 : Int)]).length : Int)) <|
 W.ret (false, List.take 0 (List.replicate (IntKind.i64.wrap (a0 - 0)).toNat [I 0])))
 (W.ret (true, [])))

/-- slices.Concat[[]byte,byte] -/
def g_slices_Concat___byte_byte_ (a0 : Bool) (a1 : Rws) : W (Bool × Rws) :=
 W.bind (W.loop (σ := Int × Int) (ε := Int) (fun v0 =>
 W.ite (decide (v0.snd < (↑(List.length a1) : Int))) (W.need (0 ≤ v0.snd ∧ v0.snd < (↑(List.length a1) : Int)) <|
 W.ite (decide (IntKind.i64.wrap (v0.fst + (↑(List.length (rr a1 v0.snd.toNat 0)) : Int)) < 0)) (W.need (False) <|
 W.fail)
 (W.ret (Sum.inl (IntKind.i64.wrap (v0.fst + (↑(List.length (rr a1 v0.snd.toNat 0)) : Int)), IntKind.i64.wrap (v0.snd + 1)))))
 (W.ret (Sum.inr v0.fst))) (0, 0))
 (fun v1 =>
 W.bind (g_slices_Grow___byte_byte__z (v1)) fun v2 =>
 W.bind (W.loop (σ := Int × Bool × Rws) (ε := Bool × Rws) (fun v3 =>
 W.ite (decide (v3.fst < (↑(List.length a1) : Int))) (W.need (0 ≤ v3.fst ∧ v3.fst < (↑(List.length a1) : Int)) <|
 W.need ((List.length v3.snd.snd + List.length (rr a1 v3.fst.toNat 0)) * 1 ≤ 140737488355328) <|
 W.ret (Sum.inl (IntKind.i64.wrap (v3.fst + 1), v3.snd.fst && List.isEmpty (rr a1 v3.fst.toNat 0), v3.snd.snd ++ rr a1 v3.fst.toNat 0)))
 (W.ret (Sum.inr (v3.snd.fst, v3.snd.snd)))) (0, v2.fst, v2.snd))
 (fun v4 =>
 W.ret (v4.fst, v4.snd)))

/-- spillway/wire.PutU -/
def g_wire_PutU (a0 : Bool) (a1 : Rws) (a2 : Int) : W (Bool × Rws) :=
 W.bind (g_slices_Concat___byte_byte_ (false) ([[AV.sl a0 0 a1], [AV.sl false 0 []]])) fun v0 =>
 W.bind (W.loop (σ := Int × Bool × Rws) (ε := Int × Bool × Rws) (fun v1 =>
 W.ite (decide (127 < v1.fst)) (W.need ((List.length v1.snd.snd + 1) * 1 ≤ 140737488355328) <|
 W.ret (Sum.inl (v1.fst.fdiv 128, v1.snd.fst && false, v1.snd.snd ++ [[I (ibits BinOp.or IntKind.u8 (IntKind.u8.wrap v1.fst) 128)]])))
 (W.ret (Sum.inr (v1.fst, v1.snd.fst, v1.snd.snd)))) (a2, v0.fst, v0.snd))
 (fun v2 =>
 W.need ((List.length v2.snd.snd + 1) * 1 ≤ 140737488355328) <|
 W.ret (v2.snd.fst && false, v2.snd.snd ++ [[I (IntKind.u8.wrap v2.fst)]]))

/-- spillway/wire.PutS -/
def g_wire_PutS (a0 : Bool) (a1 : Rws) (a2 : Int) : W (Bool × Rws) :=
 W.bind (g_wire_PutU (a0) (a1) (ibits BinOp.xor IntKind.u64 (IntKind.u64.wrap (IntKind.u64.wrap a2 * 2)) (IntKind.u64.wrap (a2.fdiv 9223372036854775808)))) fun v0 =>
 W.ret (v0.fst, v0.snd)

/-- spillway/seal.put -/
def g_seal_put_o (a0 : Bool) (a1 : Rws) (a2 : Bool) (a3 : Rws) : W (Bool × Rws) :=
 W.bind (W.loop (σ := Int × Bool × Rws) (ε := Bool × Rws) (fun v0 =>
 W.ite (decide (v0.fst < (↑(List.length a1) : Int))) (W.need (0 ≤ v0.fst ∧ v0.fst < (↑(List.length a1) : Int)) <|
 W.bind (g_wire_PutS (true) ([]) (ri a1 v0.fst.toNat 0)) fun v1 =>
 W.bind (g_wire_PutS (v1.fst) (v1.snd) (ri a1 v0.fst.toNat 1)) fun v2 =>
 W.need ((List.length v0.snd.snd + List.length v2.snd) * 1 ≤ 140737488355328) <|
 W.ret (Sum.inl (IntKind.i64.wrap (v0.fst + 1), v0.snd.fst && List.isEmpty v2.snd, v0.snd.snd ++ v2.snd)))
 (W.ret (Sum.inr (v0.snd.fst, v0.snd.snd)))) (0, a2, a3))
 (fun v3 =>
 W.ret (v3.fst, v3.snd))

/-- spillway/seal.Encode -/
def g_seal_Encode (a0 : Bool) (a1 : Rws) (a2 : Bool) (a3 : Rws) : W (Int × Int × Int × Bool × Rws) :=
 W.bind (g_seal_check (a0) (a1) (a2) (a3)) fun v0 =>
 W.ite (v0.fst != 0) (W.ret (v0.fst, v0.snd.fst, v0.snd.snd, true, []))
 (W.bind (g_wire_PutU (false) ([[I 83], [I 87], [I 67], [I 49]]) (IntKind.u64.wrap (↑(List.length a1) : Int))) fun v1 =>
 W.bind (g_seal_put_o (a0) (a1) (v1.fst) (v1.snd)) fun v2 =>
 W.bind (g_wire_PutU (v2.fst) (v2.snd) (IntKind.u64.wrap (↑(List.length a3) : Int))) fun v3 =>
 W.bind (W.loop (σ := Int × Bool × Rws) (ε := Bool × Rws) (fun v4 =>
 W.ite (decide (v4.fst < (↑(List.length a3) : Int))) (W.need (0 ≤ v4.fst ∧ v4.fst < (↑(List.length a3) : Int)) <|
 W.bind (g_wire_PutU (v4.snd.fst) (v4.snd.snd) (IntKind.u64.wrap (↑(List.length (rr a3 v4.fst.toNat 0)) : Int))) fun v5 =>
 W.bind (W.loop (σ := Int × Bool × Rws) (ε := Int × Bool × Bool × Rws) (fun v6 =>
 W.ite (decide (v6.fst < (↑(List.length (rr a3 v4.fst.toNat 0)) : Int))) (W.need (0 ≤ v6.fst ∧ v6.fst < (↑(List.length (rr a3 v4.fst.toNat 0)) : Int)) <|
 W.bind (g_wire_PutU (true) ([]) (IntKind.u64.wrap (ri (rr a3 v4.fst.toNat 0) v6.fst.toNat 0))) fun v7 =>
 W.bind (g_wire_PutU (v7.fst) (v7.snd) (IntKind.u64.wrap (ri (rr a3 v4.fst.toNat 0) v6.fst.toNat 1))) fun v8 =>
 W.need ((List.length v6.snd.snd + List.length v8.snd) * 1 ≤ 140737488355328) <|
 W.bind (g_seal_put_o (false) ([[I (ri (rr a3 v4.fst.toNat 0) v6.fst.toNat 2), I (ri (rr a3 v4.fst.toNat 0) v6.fst.toNat 3)], [I (ri (rr a3 v4.fst.toNat 0) v6.fst.toNat 4), I (ri (rr a3 v4.fst.toNat 0) v6.fst.toNat 5)]]) (v6.snd.fst && List.isEmpty v8.snd) (v6.snd.snd ++ v8.snd)) fun v9 =>
 W.ret (Sum.inl (IntKind.i64.wrap (v6.fst + 1), v9.fst, v9.snd)))
 (W.ret (Sum.inr (v6.fst, decide (v6.fst < (↑(List.length (rr a3 v4.fst.toNat 0)) : Int)), v6.snd.fst, v6.snd.snd)))) (0, v5.fst, v5.snd))
 (fun v10 =>
 W.ret (Sum.inl (IntKind.i64.wrap (v4.fst + 1), v10.snd.snd.fst, v10.snd.snd.snd))))
 (W.ret (Sum.inr (v4.snd.fst, v4.snd.snd)))) (0, v3.fst, v3.snd))
 (fun v11 =>
 W.ret (0, 0, 0, v11.fst, v11.snd)))

/-- spillway/spillwayref16.whole -/
def g_ref16_whole (a0 : Int) : W (Bool) :=
 W.ret (decide (0 ≤ a0) && decide (a0 ≤ 2147483647))

/-- spillway/spillwayref04.U -/
def g_ref04_U (a0 : Int) : W (Bool × Rws) :=
 W.bind (W.loop (σ := Int × Bool × Rws) (ε := Int × Bool × Rws) (fun v0 =>
 W.ite (decide (128 ≤ v0.fst)) (W.need ((List.length v0.snd.snd + 1) * 1 ≤ 140737488355328) <|
 W.ret (Sum.inl (IntKind.u64.wrap (v0.fst.tdiv 128), v0.snd.fst && false, v0.snd.snd ++ [[I (IntKind.u8.wrap (IntKind.u64.wrap (v0.fst.tmod 128 + 128)))]])))
 (W.ret (Sum.inr (v0.fst, v0.snd.fst, v0.snd.snd)))) (a0, true, []))
 (fun v1 =>
 W.need ((List.length v1.snd.snd + 1) * 1 ≤ 140737488355328) <|
 W.ret (v1.snd.fst && false, v1.snd.snd ++ [[I (IntKind.u8.wrap v1.fst)]]))

/-- spillway/spillwayref16.count -/
def g_ref16_count_o (a0 : Int) (a1 : Bool) (a2 : Rws) : W (Bool × Rws) :=
 W.bind (g_ref04_U (IntKind.u64.wrap a0)) fun v0 =>
 W.need ((List.length a2 + List.length v0.snd) * 1 ≤ 140737488355328) <|
 W.ret (a1 && List.isEmpty v0.snd, a2 ++ v0.snd)

/-- spillway/spillwayref04.Fold -/
def g_ref04_Fold (a0 : Int) : W (Int) :=
 W.ite (decide (0 ≤ a0)) (W.ret (IntKind.u64.wrap (2 * IntKind.u64.wrap a0)))
 (W.ret (IntKind.u64.wrap (IntKind.u64.wrap (2 * IntKind.u64.wrap (IntKind.i64.wrap (0 - IntKind.i64.wrap (a0 + 1)))) + 1)))

/-- spillway/spillwayref04.S -/
def g_ref04_S (a0 : Int) : W (Bool × Rws) :=
 W.bind (g_ref04_Fold (a0)) fun v0 =>
 W.bind (g_ref04_U (v0)) fun v1 =>
 W.ret (v1.fst, v1.snd)

/-- spillway/spillwayref16.ends -/
def g_ref16_ends_o (a0 : Int) (a1 : Int) (a2 : Bool) (a3 : Rws) : W (Bool × Rws) :=
 W.bind (g_ref04_S (a0)) fun v0 =>
 W.need ((List.length a3 + List.length v0.snd) * 1 ≤ 140737488355328) <|
 W.bind (g_ref04_S (a1)) fun v1 =>
 W.need (((a3 ++ v0.snd).length + List.length v1.snd) * 1 ≤ 140737488355328) <|
 W.ret (a2 && List.isEmpty v0.snd && List.isEmpty v1.snd, a3 ++ v0.snd ++ v1.snd)

/-- spillway/spillwayref16.Bytes -/
def g_ref16_Bytes (a0 : Bool) (a1 : Rws) (a2 : Bool) (a3 : Rws) : W (Bool × Rws) :=
 W.bind (g_ref16_count_o ((↑(List.length a1) : Int)) (false) ([[I 83], [I 87], [I 67], [I 49]])) fun v0 =>
 W.bind (W.loop (σ := Int × Bool × Rws) (ε := Bool × Rws) (fun v1 =>
 W.ite (decide (v1.fst < (↑(List.length a1) : Int))) (W.need (0 ≤ v1.fst ∧ v1.fst < (↑(List.length a1) : Int)) <|
 W.bind (g_ref16_ends_o (ri a1 v1.fst.toNat 0) (ri a1 v1.fst.toNat 1) (v1.snd.fst) (v1.snd.snd)) fun v2 =>
 W.ret (Sum.inl (IntKind.i64.wrap (v1.fst + 1), v2.fst, v2.snd)))
 (W.ret (Sum.inr (v1.snd.fst, v1.snd.snd)))) (0, v0.fst, v0.snd))
 (fun v3 =>
 W.bind (g_ref16_count_o ((↑(List.length a3) : Int)) (v3.fst) (v3.snd)) fun v4 =>
 W.bind (W.loop (σ := Int × Bool × Rws) (ε := Bool × Rws) (fun v5 =>
 W.ite (decide (v5.fst < (↑(List.length a3) : Int))) (W.need (0 ≤ v5.fst ∧ v5.fst < (↑(List.length a3) : Int)) <|
 W.bind (g_ref16_count_o ((↑(List.length (rr a3 v5.fst.toNat 0)) : Int)) (v5.snd.fst) (v5.snd.snd)) fun v6 =>
 W.bind (W.loop (σ := Int × Bool × Rws) (ε := Int × Bool × Bool × Rws) (fun v7 =>
 W.ite (decide (v7.fst < (↑(List.length (rr a3 v5.fst.toNat 0)) : Int))) (W.need (0 ≤ v7.fst ∧ v7.fst < (↑(List.length (rr a3 v5.fst.toNat 0)) : Int)) <|
 W.bind (g_ref16_count_o (ri (rr a3 v5.fst.toNat 0) v7.fst.toNat 0) (v7.snd.fst) (v7.snd.snd)) fun v8 =>
 W.bind (g_ref16_count_o (ri (rr a3 v5.fst.toNat 0) v7.fst.toNat 1) (v8.fst) (v8.snd)) fun v9 =>
 W.bind (g_ref16_ends_o (ri (rr a3 v5.fst.toNat 0) v7.fst.toNat 2) (ri (rr a3 v5.fst.toNat 0) v7.fst.toNat 3) (v9.fst) (v9.snd)) fun v10 =>
 W.bind (g_ref16_ends_o (ri (rr a3 v5.fst.toNat 0) v7.fst.toNat 4) (ri (rr a3 v5.fst.toNat 0) v7.fst.toNat 5) (v10.fst) (v10.snd)) fun v11 =>
 W.ret (Sum.inl (IntKind.i64.wrap (v7.fst + 1), v11.fst, v11.snd)))
 (W.ret (Sum.inr (v7.fst, decide (v7.fst < (↑(List.length (rr a3 v5.fst.toNat 0)) : Int)), v7.snd.fst, v7.snd.snd)))) (0, v6.fst, v6.snd))
 (fun v12 =>
 W.ret (Sum.inl (IntKind.i64.wrap (v5.fst + 1), v12.snd.snd.fst, v12.snd.snd.snd))))
 (W.ret (Sum.inr (v5.snd.fst, v5.snd.snd)))) (0, v4.fst, v4.snd))
 (fun v13 =>
 W.ret (v13.fst, v13.snd)))

/-- spillway/spillwayref16.Encode -/
def g_ref16_Encode (a0 : Bool) (a1 : Rws) (a2 : Bool) (a3 : Rws) : W (Int × Int × Int × Bool × Rws) :=
 W.ite (decide (65 < (↑(List.length a1) : Int)) || decide (64 < (↑(List.length a3) : Int))) (W.ret (42, 0, 0, true, []))
 (W.bind (W.loop (σ := Int) (ε := (Int × Int × Int) ⊕ (Unit)) (fun v0 =>
 W.ite (decide (v0 < (↑(List.length a3) : Int))) (W.need (0 ≤ v0 ∧ v0 < (↑(List.length a3) : Int)) <|
 W.ite (decide (1024 < (↑(List.length (rr a3 v0.toNat 0)) : Int))) (W.ret (Sum.inr (Sum.inl (42, IntKind.i64.wrap (v0 + 1), 0))))
 (W.bind (W.loop (σ := Int) (ε := (Int × Int × Bool × Int × Nat × Int × Int × Int × Int × Int × Int × Int × Bool × Bool × Bool × Bool × Int × Int × Int × Int × Int × Int × Int × Int × Int × Int) ⊕ (Int × Bool)) (fun v1 =>
 W.ite (decide (v1 < (↑(List.length (rr a3 v0.toNat 0)) : Int))) (W.need (0 ≤ v1 ∧ v1 < (↑(List.length (rr a3 v0.toNat 0)) : Int)) <|
 W.bind (α := Bool × Bool × Bool × Bool) (W.bind (g_ref16_whole (ri (rr a3 v0.toNat 0) v1.toNat 0)) fun v2 =>
 W.ite (!v2) (W.ret (v2, !v2, true, true))
 (W.bind (g_ref16_whole (ri (rr a3 v0.toNat 0) v1.toNat 1)) fun v3 =>
 W.ret (v2, !v2, false, !v3)))
 fun v4 =>
 W.ite (v4.snd.snd.snd) (W.ret (Sum.inr (Sum.inl (v1, v1, decide (v1 < (↑(List.length (rr a3 v0.toNat 0)) : Int)), v1, v1.toNat, ri (rr a3 v0.toNat 0) v1.toNat 0, ri (rr a3 v0.toNat 0) v1.toNat 1, ri (rr a3 v0.toNat 0) v1.toNat 2, ri (rr a3 v0.toNat 0) v1.toNat 3, ri (rr a3 v0.toNat 0) v1.toNat 4, ri (rr a3 v0.toNat 0) v1.toNat 5, ri (rr a3 v0.toNat 0) v1.toNat 0, v4.fst, v4.snd.fst, v4.snd.snd.fst, v4.snd.snd.snd, v1, IntKind.i64.wrap (v1 + 1), IntKind.i64.wrap (v1 + 1), IntKind.i64.wrap (v1 + 1), ri (rr a3 v0.toNat 0) v1.toNat 0, ri (rr a3 v0.toNat 0) v1.toNat 1, ri (rr a3 v0.toNat 0) v1.toNat 2, ri (rr a3 v0.toNat 0) v1.toNat 3, ri (rr a3 v0.toNat 0) v1.toNat 4, ri (rr a3 v0.toNat 0) v1.toNat 5))))
 (W.ret (Sum.inl (IntKind.i64.wrap (v1 + 1)))))
 (W.ret (Sum.inr (Sum.inr (v1, decide (v1 < (↑(List.length (rr a3 v0.toNat 0)) : Int))))))) 0)
 (W.sum (fun v5 =>
 W.ret (Sum.inr (Sum.inl (2, IntKind.i64.wrap (v0 + 1), v5.snd.snd.snd.snd.snd.snd.snd.snd.snd.snd.snd.snd.snd.snd.snd.snd.snd.snd.snd.fst)))) (fun v6 =>
 W.ret (Sum.inl (IntKind.i64.wrap (v0 + 1)))))))
 (W.ret (Sum.inr (Sum.inr ())))) 0)
 (W.sum (fun v7 =>
 W.ret (v7.fst, v7.snd.fst, v7.snd.snd, true, [])) (fun v8 =>
 W.bind (g_ref16_Bytes (a0) (a1) (a2) (a3)) fun v9 =>
 W.ret (0, 0, 0, v9.fst, v9.snd))))

/-- (*spillway/seal.decoder).giveUp -/
def g___seal_decoder__giveUp_p (a0 : Int) (a1 : Int) (a2 : Int) (a3 : Int) : W (Int × Int × Int × Int) :=
 W.ret (a0, a2, a3, a0)

/-- slices.Clone[[]byte,byte] -/
def g_slices_Clone___byte_byte_ (a0 : Bool) (a1 : Rws) : W (Bool × Rws) :=
 W.ite (a0) (W.ret (true, []))
 (W.need ((0 + List.length a1) * 1 ≤ 140737488355328) <|
 W.ret (false, a1))

/-- spillway/wire.New -/
def g_wire_New (a0 : Bool) (a1 : Rws) : W (Int × Int × Bool × Rws) :=
 W.bind (g_slices_Clone___byte_byte_ (a0) (a1)) fun v0 =>
 W.ret (0, 0, v0.fst, v0.snd)

/-- math/bits.RotateLeft64 -/
def g_math_bits_RotateLeft64 (a0 : Int) (a1 : Int) : W (Int) :=
 W.need (0 ≤ ibits BinOp.and IntKind.u64 (IntKind.u64.wrap a1) 63) <|
 W.need (0 ≤ IntKind.u64.wrap (64 - ibits BinOp.and IntKind.u64 (IntKind.u64.wrap a1) 63)) <|
 W.ret (ibits BinOp.or IntKind.u64 (IntKind.u64.wrap (a0 * 2 ^ min (ibits BinOp.and IntKind.u64 (IntKind.u64.wrap a1) 63).toNat 64)) (a0.fdiv (2 ^ min (IntKind.u64.wrap (64 - ibits BinOp.and IntKind.u64 (IntKind.u64.wrap a1) 63)).toNat 64)))

/-- (*spillway/wire.cursor).peek -/
def g___wire_cursor__peek_p (a0 : Bool) (a1 : Rws) (a2 : Int) : W (Int × Int × Int) :=
 W.need (0 ≤ a2 ∧ a2 ≤ (↑(List.length a1) : Int) ∧ (↑(List.length a1) : Int) ≤ (↑(List.length a1) : Int)) <|
 W.bind (W.loop (σ := Int × Int) (ε := (Int × Int × Int) ⊕ (Unit)) (fun v0 =>
 W.ite (decide (v0.snd < (↑(List.take ((↑(List.length a1) : Int) - a2).toNat (List.drop a2.toNat a1)).length : Int))) (W.need (0 ≤ v0.snd ∧ v0.snd < (↑(List.take ((↑(List.length a1) : Int) - a2).toNat (List.drop a2.toNat a1)).length : Int)) <|
 W.ite (v0.snd == 9 && decide (1 < ri (List.take ((↑(List.length a1) : Int) - a2).toNat (List.drop a2.toNat a1)) v0.snd.toNat 0)) (W.ret (Sum.inr (Sum.inl (0, 0, 41))))
 (W.bind (g_math_bits_RotateLeft64 (IntKind.u64.wrap (ibits BinOp.and IntKind.u8 (ri (List.take ((↑(List.length a1) : Int) - a2).toNat (List.drop a2.toNat a1)) v0.snd.toNat 0) 127)) (IntKind.i64.wrap (7 * v0.snd))) fun v1 =>
 W.ite (decide (ri (List.take ((↑(List.length a1) : Int) - a2).toNat (List.drop a2.toNat a1)) v0.snd.toNat 0 < 128)) (W.ite (decide (0 < v0.snd) && ri (List.take ((↑(List.length a1) : Int) - a2).toNat (List.drop a2.toNat a1)) v0.snd.toNat 0 == 0) (W.ret (Sum.inr (Sum.inl (0, 0, 41))))
 (W.ret (Sum.inr (Sum.inl (ibits BinOp.or IntKind.u64 v0.fst v1, IntKind.i64.wrap (v0.snd + 1), 0)))))
 (W.ret (Sum.inl (ibits BinOp.or IntKind.u64 v0.fst v1, IntKind.i64.wrap (v0.snd + 1))))))
 (W.ret (Sum.inr (Sum.inr ())))) (0, 0))
 (W.sum (fun v2 =>
 W.ret (v2.fst, v2.snd.fst, v2.snd.snd)) (fun v3 =>
 W.ret (0, 0, 40)))

/-- (*spillway/wire.Reader).take -/
def g___wire_Reader__take_p (a0 : Int) (a1 : Int) (a2 : Bool) (a3 : Rws) (a4 : Int) : W (Int × Int × Int) :=
 W.ite (false || a1 != 0) (W.ret (0, a1, a4))
 (W.bind (g___wire_cursor__peek_p (a2) (a3) (a4)) fun v0 =>
 W.bind (α := Int) (W.ite (v0.snd.snd == 0 && decide (a0 < v0.fst)) (W.ret 42)
 (W.ret v0.snd.snd))
 fun v1 =>
 W.ite (v1 != 0) (W.ret (0, v1, a4))
 (W.ret (v0.fst, a1, IntKind.i64.wrap (a4 + v0.snd.fst))))

/-- (*spillway/wire.Reader).N -/
def g___wire_Reader__N_p (a0 : Int) (a1 : Int) (a2 : Bool) (a3 : Rws) (a4 : Int) : W (Int × Int × Int) :=
 W.ite (decide (0 ≤ a0)) (W.bind (g___wire_Reader__take_p (IntKind.u64.wrap a0) (a1) (a2) (a3) (a4)) fun v0 =>
 W.ret (IntKind.i64.wrap v0.fst, v0.snd.fst, v0.snd.snd))
 (W.bind (α := Int × Int) (W.bind (g___wire_Reader__take_p (0) (a1) (a2) (a3) (a4)) fun v1 =>
 W.ite (v1.snd.fst == 0) (W.ret (42, IntKind.i64.wrap (v1.snd.snd - 1)))
 (W.ret (v1.snd.fst, v1.snd.snd)))
 fun v2 =>
 W.ret (0, v2.fst, v2.snd))

/-- (*spillway/wire.Reader).Err -/
def g___wire_Reader__Err_p (a0 : Int) (a1 : Bool) (a2 : Rws) (a3 : Int) : W (Int) :=
 W.ret a0

/-- (*spillway/seal.decoder).giveUp -/
def g___seal_decoder__giveUp_p_2 (a0 : Int) (a1 : Int) (a2 : Int) (a3 : Int) (a4 : Int) (a5 : Bool) (a6 : Rws) (a7 : Int) : W (Int × Int × Int × Int) :=
 W.ret (a0, a2, a3, a0)

/-- (*spillway/seal.decoder).sure -/
def g___seal_decoder__sure_p (a0 : Int) (a1 : Int) (a2 : Int) (a3 : Int) (a4 : Bool) (a5 : Rws) (a6 : Int) : W ((Unit) ⊕ (Int × Int × Int × Int)) :=
 W.bind (g___wire_Reader__Err_p (a3) (a4) (a5) (a6)) fun v0 =>
 W.ite (v0 != 0) (W.bind (g___seal_decoder__giveUp_p_2 (v0) (a0) (a1) (a2) (a3) (a4) (a5) (a6)) fun v1 =>
 W.ret (Sum.inr (v1.fst, v1.snd.fst, v1.snd.snd.fst, v1.snd.snd.snd)))
 (W.ret (Sum.inl ()))

/-- (*spillway/seal.decoder).count -/
def g___seal_decoder__count_p (a0 : Int) (a1 : Int) (a2 : Int) (a3 : Int) (a4 : Int) (a5 : Bool) (a6 : Rws) (a7 : Int) : W ((Int × Int × Int) ⊕ (Int × Int × Int × Int × Int × Int)) :=
 W.bind (g___wire_Reader__N_p (a0) (a4) (a5) (a6) (a7)) fun v0 =>
 W.bind (g___seal_decoder__sure_p (a1) (a2) (a3) (v0.snd.fst) (a5) (a6) (v0.snd.snd)) (W.sum (fun v1 =>
 W.ret (Sum.inl (v0.fst, v0.snd.fst, v0.snd.snd))) (fun v2 =>
 W.ret (Sum.inr (v2.fst, v2.snd.fst, v2.snd.snd.fst, v2.snd.snd.snd, v0.snd.fst, v0.snd.snd))))

/-- (*spillway/wire.Reader).S -/
def g___wire_Reader__S_p (a0 : Int) (a1 : Bool) (a2 : Rws) (a3 : Int) : W (Int × Int × Int) :=
 W.bind (g___wire_Reader__take_p (18446744073709551615) (a0) (a1) (a2) (a3)) fun v0 =>
 W.ret (ibits BinOp.xor IntKind.i64 (IntKind.i64.wrap (v0.fst.fdiv 2)) (IntKind.i64.wrap (0 - IntKind.i64.wrap (ibits BinOp.and IntKind.u64 v0.fst 1))), v0.snd.fst, v0.snd.snd)

/-- (*spillway/seal.decoder).s -/
def g___seal_decoder__s_p (a0 : Int) (a1 : Int) (a2 : Int) (a3 : Int) (a4 : Bool) (a5 : Rws) (a6 : Int) : W ((Int × Int × Int) ⊕ (Int × Int × Int × Int × Int × Int)) :=
 W.bind (g___wire_Reader__S_p (a3) (a4) (a5) (a6)) fun v0 =>
 W.bind (g___seal_decoder__sure_p (a0) (a1) (a2) (v0.snd.fst) (a4) (a5) (v0.snd.snd)) (W.sum (fun v1 =>
 W.ret (Sum.inl (v0.fst, v0.snd.fst, v0.snd.snd))) (fun v2 =>
 W.ret (Sum.inr (v2.fst, v2.snd.fst, v2.snd.snd.fst, v2.snd.snd.snd, v0.snd.fst, v0.snd.snd))))

/-- (*spillway/seal.decoder).span -/
def g___seal_decoder__span_p (a0 : Int) (a1 : Int) (a2 : Int) (a3 : Int) (a4 : Bool) (a5 : Rws) (a6 : Int) : W ((Int × Int × Int × Int) ⊕ (Int × Int × Int × Int × Int × Int)) :=
 W.bind (g___seal_decoder__s_p (a0) (a1) (a2) (a3) (a4) (a5) (a6)) (W.sum (fun v0 =>
 W.bind (g___seal_decoder__s_p (a0) (a1) (a2) (v0.snd.fst) (a4) (a5) (v0.snd.snd)) (W.sum (fun v1 =>
 W.ret (Sum.inl (v0.fst, v1.fst, v1.snd.fst, v1.snd.snd))) (fun v2 =>
 W.ret (Sum.inr (v2.fst, v2.snd.fst, v2.snd.snd.fst, v2.snd.snd.snd.fst, v2.snd.snd.snd.snd.fst, v2.snd.snd.snd.snd.snd))))) (fun v3 =>
 W.ret (Sum.inr (v3.fst, v3.snd.fst, v3.snd.snd.fst, v3.snd.snd.snd.fst, v3.snd.snd.snd.snd.fst, v3.snd.snd.snd.snd.snd))))

/-- (*spillway/wire.Reader).U -/
def g___wire_Reader__U_p (a0 : Int) (a1 : Bool) (a2 : Rws) (a3 : Int) : W (Int × Int × Int) :=
 W.bind (g___wire_Reader__take_p (18446744073709551615) (a0) (a1) (a2) (a3)) fun v0 =>
 W.ret (v0.fst, v0.snd.fst, v0.snd.snd)

/-- (*spillway/seal.decoder).u -/
def g___seal_decoder__u_p (a0 : Int) (a1 : Int) (a2 : Int) (a3 : Int) (a4 : Bool) (a5 : Rws) (a6 : Int) : W ((Int × Int × Int) ⊕ (Int × Int × Int × Int × Int × Int)) :=
 W.bind (g___wire_Reader__U_p (a3) (a4) (a5) (a6)) fun v0 =>
 W.bind (g___seal_decoder__sure_p (a0) (a1) (a2) (v0.snd.fst) (a4) (a5) (v0.snd.snd)) (W.sum (fun v1 =>
 W.ite (decide (2147483647 < v0.fst)) (W.bind (g___seal_decoder__giveUp_p_2 (41) (a0) (a1) (a2) (v0.snd.fst) (a4) (a5) (v0.snd.snd)) fun v2 =>
 W.ret (Sum.inr (v2.fst, v2.snd.fst, v2.snd.snd.fst, v2.snd.snd.snd, v0.snd.fst, v0.snd.snd)))
 (W.ret (Sum.inl (IntKind.i64.wrap v0.fst, v0.snd.fst, v0.snd.snd)))) (fun v3 =>
 W.ret (Sum.inr (v3.fst, v3.snd.fst, v3.snd.snd.fst, v3.snd.snd.snd, v0.snd.fst, v0.snd.snd))))

/-- (*spillway/seal.decoder).list -/
def g___seal_decoder__list_p (a0 : Int) (a1 : Int) (a2 : Int) (a3 : Int) (a4 : Bool) (a5 : Rws) (a6 : Int) : W ((Int × Int × Int × Bool × Rws) ⊕ (Int × Int × Int × Int × Int × Int × Int)) :=
 W.bind (g___seal_decoder__count_p (1024) (a0) (a1) (a2) (a3) (a4) (a5) (a6)) (W.sum (fun v0 =>
 W.bind (W.loop (σ := Int × Int × Int × Int × Bool × Rws) (ε := (Int × Int × Int × Bool × Rws) ⊕ ((Int × Int × Int × Bool × Rws) ⊕ (Int × Int × Int × Int × Int × Int × Int))) (fun v1 =>
 W.ite (decide (v1.fst < v0.fst)) (W.bind (g___seal_decoder__u_p (a0) (a1) (IntKind.i64.wrap (v1.fst + 1)) (v1.snd.snd.fst) (a4) (a5) (v1.snd.snd.snd.fst)) (W.sum (fun v2 =>
 W.bind (g___seal_decoder__u_p (a0) (a1) (IntKind.i64.wrap (v1.fst + 1)) (v2.snd.fst) (a4) (a5) (v2.snd.snd)) (W.sum (fun v3 =>
 W.bind (g___seal_decoder__span_p (a0) (a1) (IntKind.i64.wrap (v1.fst + 1)) (v3.snd.fst) (a4) (a5) (v3.snd.snd)) (W.sum (fun v4 =>
 W.bind (g___seal_decoder__span_p (a0) (a1) (IntKind.i64.wrap (v1.fst + 1)) (v4.snd.snd.fst) (a4) (a5) (v4.snd.snd.snd)) (W.sum (fun v5 =>
 W.need ((List.length v1.snd.snd.snd.snd.snd + 1) * 48 ≤ 140737488355328) <|
 W.ret (Sum.inl (IntKind.i64.wrap (v1.fst + 1), IntKind.i64.wrap (v1.fst + 1), v5.snd.snd.fst, v5.snd.snd.snd, v1.snd.snd.snd.snd.fst && false, v1.snd.snd.snd.snd.snd ++ [[I v2.fst, I v3.fst, I v4.fst, I v4.snd.fst, I v5.fst, I v5.snd.fst]]))) (fun v6 =>
 W.ret (Sum.inr (Sum.inr (Sum.inr (v6.fst, v6.snd.fst, v6.snd.snd.fst, v6.snd.snd.snd.fst, IntKind.i64.wrap (v1.fst + 1), v6.snd.snd.snd.snd.fst, v6.snd.snd.snd.snd.snd))))))) (fun v7 =>
 W.ret (Sum.inr (Sum.inr (Sum.inr (v7.fst, v7.snd.fst, v7.snd.snd.fst, v7.snd.snd.snd.fst, IntKind.i64.wrap (v1.fst + 1), v7.snd.snd.snd.snd.fst, v7.snd.snd.snd.snd.snd))))))) (fun v8 =>
 W.ret (Sum.inr (Sum.inr (Sum.inr (v8.fst, v8.snd.fst, v8.snd.snd.fst, v8.snd.snd.snd.fst, IntKind.i64.wrap (v1.fst + 1), v8.snd.snd.snd.snd.fst, v8.snd.snd.snd.snd.snd))))))) (fun v9 =>
 W.ret (Sum.inr (Sum.inr (Sum.inr (v9.fst, v9.snd.fst, v9.snd.snd.fst, v9.snd.snd.snd.fst, IntKind.i64.wrap (v1.fst + 1), v9.snd.snd.snd.snd.fst, v9.snd.snd.snd.snd.snd)))))))
 (W.ret (Sum.inr (Sum.inl (v1.snd.fst, v1.snd.snd.fst, v1.snd.snd.snd.fst, v1.snd.snd.snd.snd.fst, v1.snd.snd.snd.snd.snd))))) (0, a2, v0.snd.fst, v0.snd.snd, true, []))
 (W.sum (fun v10 =>
 W.ret (Sum.inl (0, v10.snd.fst, v10.snd.snd.fst, v10.snd.snd.snd.fst, v10.snd.snd.snd.snd))) (fun p => W.ret p))) (fun v11 =>
 W.ret (Sum.inr (v11.fst, v11.snd.fst, v11.snd.snd.fst, v11.snd.snd.snd.fst, a2, v11.snd.snd.snd.snd.fst, v11.snd.snd.snd.snd.snd))))

/-- (*spillway/wire.cursor).Left -/
def g___wire_cursor__Left_p (a0 : Bool) (a1 : Rws) (a2 : Int) : W (Int) :=
 W.ret (IntKind.i64.wrap ((↑(List.length a1) : Int) - a2))

/-- (*spillway/wire.Reader).Left -/
def g___wire_Reader__Left_p (a0 : Int) (a1 : Bool) (a2 : Rws) (a3 : Int) : W (Int) :=
 W.bind (g___wire_cursor__Left_p (a1) (a2) (a3)) fun v0 =>
 W.ret v0

/-- (*spillway/wire.Reader).End -/
def g___wire_Reader__End_p (a0 : Int) (a1 : Bool) (a2 : Rws) (a3 : Int) : W (Int) :=
 W.bind (g___wire_Reader__Err_p (a0) (a1) (a2) (a3)) fun v0 =>
 W.bind (α := Bool) (W.ite (v0 != 0) (W.ret true)
 (W.bind (g___wire_Reader__Left_p (a0) (a1) (a2) (a3)) fun v1 =>
 W.ret (v1 == 0)))
 fun v2 =>
 W.ite (v2) (W.ret v0)
 (W.ret 43)

/-- spillway/seal.Decode -/
def g_seal_Decode (a0 : Bool) (a1 : Rws) : W (Int × Int × Int × Bool × Rws × Bool × Rws) :=
 W.ite (decide ((↑(List.length a1) : Int) < 4)) (W.bind (g___seal_decoder__giveUp_p (40) (0) (0) (0)) fun v0 =>
 W.ret (v0.fst, v0.snd.fst, v0.snd.snd.fst, true, [], true, []))
 (W.need ((0 : Int) ≤ (0 : Int) ∧ (0 : Int) ≤ (4 : Int) ∧ (4 : Int) ≤ (↑(List.length a1) : Int)) <|
 W.ite (!(bytesR (List.take 4 (List.drop 0 a1))).toList == (bs [83, 87, 67, 49]).toList) (W.bind (g___seal_decoder__giveUp_p (41) (0) (0) (0)) fun v1 =>
 W.ret (v1.fst, v1.snd.fst, v1.snd.snd.fst, true, [], true, []))
 (W.need ((0 : Int) ≤ (4 : Int) ∧ (4 : Int) ≤ (↑(List.length a1) : Int) ∧ (↑(List.length a1) : Int) ≤ (↑(List.length a1) : Int)) <|
 W.bind (g_wire_New (a0) (List.take ((↑(List.length a1) : Int) - 4).toNat (List.drop 4 a1))) fun v2 =>
 W.bind (g___seal_decoder__count_p (65) (0) (0) (0) (v2.fst) (v2.snd.snd.fst) (v2.snd.snd.snd) (v2.snd.fst)) (W.sum (fun v3 =>
 W.bind (W.loop (σ := Int × Bool × Rws × Int × Int) (ε := (Bool × Rws × Int × Int) ⊕ (Int × Int × Int × Bool × Rws × Bool × Rws)) (fun v4 =>
 W.ite (decide (v4.fst < v3.fst)) (W.bind (g___seal_decoder__span_p (0) (0) (0) (v4.snd.snd.snd.fst) (v2.snd.snd.fst) (v2.snd.snd.snd) (v4.snd.snd.snd.snd)) (W.sum (fun v5 =>
 W.need ((List.length v4.snd.snd.fst + 1) * 16 ≤ 140737488355328) <|
 W.ret (Sum.inl (IntKind.i64.wrap (v4.fst + 1), v4.snd.fst && false, v4.snd.snd.fst ++ [[I v5.fst, I v5.snd.fst]], v5.snd.snd.fst, v5.snd.snd.snd))) (fun v6 =>
 W.ret (Sum.inr (Sum.inr (v6.fst, v6.snd.fst, v6.snd.snd.fst, true, [], true, []))))))
 (W.ret (Sum.inr (Sum.inl (v4.snd.fst, v4.snd.snd.fst, v4.snd.snd.snd.fst, v4.snd.snd.snd.snd))))) (0, true, [], v3.snd.fst, v3.snd.snd))
 (W.sum (fun v7 =>
 W.bind (g___seal_decoder__count_p (64) (0) (0) (0) (v7.snd.snd.fst) (v2.snd.snd.fst) (v2.snd.snd.snd) (v7.snd.snd.snd)) (W.sum (fun v8 =>
 W.bind (W.loop (σ := Int × Int × Int × Bool × Rws × Int × Int) (ε := (Int × Int × Bool × Rws × Int × Int) ⊕ (Int × Int × Int × Bool × Rws × Bool × Rws)) (fun v9 =>
 W.ite (decide (v9.fst < v8.fst)) (W.bind (g___seal_decoder__list_p (0) (IntKind.i64.wrap (v9.fst + 1)) (v9.snd.snd.fst) (v9.snd.snd.snd.snd.snd.fst) (v2.snd.snd.fst) (v2.snd.snd.snd) (v9.snd.snd.snd.snd.snd.snd)) (W.sum (fun v10 =>
 W.need ((List.length v9.snd.snd.snd.snd.fst + 1) * 24 ≤ 140737488355328) <|
 W.ret (Sum.inl (IntKind.i64.wrap (v9.fst + 1), IntKind.i64.wrap (v9.fst + 1), v10.fst, v9.snd.snd.snd.fst && false, v9.snd.snd.snd.snd.fst ++ [[AV.sl v10.snd.snd.snd.fst 0 v10.snd.snd.snd.snd]], v10.snd.fst, v10.snd.snd.fst))) (fun v11 =>
 W.ret (Sum.inr (Sum.inr (v11.fst, v11.snd.fst, v11.snd.snd.fst, true, [], true, []))))))
 (W.ret (Sum.inr (Sum.inl (v9.snd.fst, v9.snd.snd.fst, v9.snd.snd.snd.fst, v9.snd.snd.snd.snd.fst, v9.snd.snd.snd.snd.snd.fst, v9.snd.snd.snd.snd.snd.snd))))) (0, 0, 0, true, [], v8.snd.fst, v8.snd.snd))
 (W.sum (fun v12 =>
 W.bind (g___wire_Reader__End_p (v12.snd.snd.snd.snd.fst) (v2.snd.snd.fst) (v2.snd.snd.snd) (v12.snd.snd.snd.snd.snd)) fun v13 =>
 W.ite (v13 != 0) (W.bind (g___seal_decoder__giveUp_p_2 (v13) (0) (0) (v12.snd.fst) (v12.snd.snd.snd.snd.fst) (v2.snd.snd.fst) (v2.snd.snd.snd) (v12.snd.snd.snd.snd.snd)) fun v14 =>
 W.ret (v14.fst, v14.snd.fst, v14.snd.snd.fst, true, [], true, []))
 (W.ret (0, 0, 0, v7.fst, v7.snd.fst, v12.snd.snd.fst, v12.snd.snd.snd.fst))) (fun p => W.ret p))) (fun v15 =>
 W.ret (v15.fst, v15.snd.fst, v15.snd.snd.fst, true, [], true, [])))) (fun p => W.ret p))) (fun v16 =>
 W.ret (v16.fst, v16.snd.fst, v16.snd.snd.fst, true, [], true, [])))))

/-- spillway/spillwaylaw16.same -/
def g_law16_same (a0 : Bool) (a1 : Rws) (a2 : Bool) (a3 : Rws) : W (Bool) :=
 W.ite ((↑(List.length a1) : Int) != (↑(List.length a3) : Int)) (W.ret false)
 (W.bind (W.loop (σ := Int) (ε := (Unit) ⊕ (Unit)) (fun v0 =>
 W.ite (decide (v0 < (↑(List.length a1) : Int))) (W.need (0 ≤ v0 ∧ v0 < (↑(List.length a1) : Int)) <|
 W.need (0 ≤ v0 ∧ v0 < (↑(List.length a3) : Int)) <|
 W.ite (ri a1 v0.toNat 0 != ri a3 v0.toNat 0) (W.ret (Sum.inr (Sum.inl ())))
 (W.ret (Sum.inl (IntKind.i64.wrap (v0 + 1)))))
 (W.ret (Sum.inr (Sum.inr ())))) 0)
 (W.sum (fun v1 =>
 W.ret false) (fun v2 =>
 W.ret true)))

/-- spillway/spillwayref15.Same -/
def g_ref15_Same (a0 : Bool) (a1 : Rws) (a2 : Bool) (a3 : Rws) (a4 : Bool) (a5 : Rws) (a6 : Bool) (a7 : Rws) : W (Bool) :=
 W.ite ((↑(List.length a1) : Int) != (↑(List.length a5) : Int) || (↑(List.length a3) : Int) != (↑(List.length a7) : Int)) (W.ret false)
 (W.bind (W.loop (σ := Int) (ε := (Unit) ⊕ (Unit)) (fun v0 =>
 W.ite (decide (v0 < (↑(List.length a1) : Int))) (W.need (0 ≤ v0 ∧ v0 < (↑(List.length a1) : Int)) <|
 W.need (0 ≤ v0 ∧ v0 < (↑(List.length a5) : Int)) <|
 W.ite (!(ri a1 v0.toNat 0 == ri a5 v0.toNat 0 && ri a1 v0.toNat 1 == ri a5 v0.toNat 1)) (W.ret (Sum.inr (Sum.inl ())))
 (W.ret (Sum.inl (IntKind.i64.wrap (v0 + 1)))))
 (W.ret (Sum.inr (Sum.inr ())))) 0)
 (W.sum (fun v1 =>
 W.ret false) (fun v2 =>
 W.bind (W.loop (σ := Int) (ε := (Unit) ⊕ (Unit)) (fun v3 =>
 W.ite (decide (v3 < (↑(List.length a3) : Int))) (W.need (0 ≤ v3 ∧ v3 < (↑(List.length a3) : Int)) <|
 W.need (0 ≤ v3 ∧ v3 < (↑(List.length a7) : Int)) <|
 W.ite ((↑(List.length (rr a3 v3.toNat 0)) : Int) != (↑(List.length (rr a7 v3.toNat 0)) : Int)) (W.ret (Sum.inr (Sum.inl ())))
 (W.need (0 ≤ v3 ∧ v3 < (↑(List.length a3) : Int)) <|
 W.bind (W.loop (σ := Int) (ε := (Int × Int × Bool × Int × Int × Nat × Int × Int × Int × Int × Int × Int × Int × Nat × Int × Int × Int × Int × Int × Int × Bool) ⊕ (Int × Bool)) (fun v4 =>
 W.ite (decide (v4 < (↑(List.length (rr a3 v3.toNat 0)) : Int))) (W.need (0 ≤ v3 ∧ v3 < (↑(List.length a3) : Int)) <|
 W.need (0 ≤ v4 ∧ v4 < (↑(List.length (rr a3 v3.toNat 0)) : Int)) <|
 W.need (0 ≤ v3 ∧ v3 < (↑(List.length a7) : Int)) <|
 W.need (0 ≤ v4 ∧ v4 < (↑(List.length (rr a7 v3.toNat 0)) : Int)) <|
 W.ite (!(ri (rr a3 v3.toNat 0) v4.toNat 0 == ri (rr a7 v3.toNat 0) v4.toNat 0 && (ri (rr a3 v3.toNat 0) v4.toNat 1 == ri (rr a7 v3.toNat 0) v4.toNat 1 && (ri (rr a3 v3.toNat 0) v4.toNat 2 == ri (rr a7 v3.toNat 0) v4.toNat 2 && (ri (rr a3 v3.toNat 0) v4.toNat 3 == ri (rr a7 v3.toNat 0) v4.toNat 3 && (ri (rr a3 v3.toNat 0) v4.toNat 4 == ri (rr a7 v3.toNat 0) v4.toNat 4 && ri (rr a3 v3.toNat 0) v4.toNat 5 == ri (rr a7 v3.toNat 0) v4.toNat 5)))))) (W.ret (Sum.inr (Sum.inl (v4, v4, decide (v4 < (↑(List.length (rr a3 v3.toNat 0)) : Int)), v4, v4, v4.toNat, ri (rr a3 v3.toNat 0) v4.toNat 0, ri (rr a3 v3.toNat 0) v4.toNat 1, ri (rr a3 v3.toNat 0) v4.toNat 2, ri (rr a3 v3.toNat 0) v4.toNat 3, ri (rr a3 v3.toNat 0) v4.toNat 4, ri (rr a3 v3.toNat 0) v4.toNat 5, v4, v4.toNat, ri (rr a7 v3.toNat 0) v4.toNat 0, ri (rr a7 v3.toNat 0) v4.toNat 1, ri (rr a7 v3.toNat 0) v4.toNat 2, ri (rr a7 v3.toNat 0) v4.toNat 3, ri (rr a7 v3.toNat 0) v4.toNat 4, ri (rr a7 v3.toNat 0) v4.toNat 5, !(ri (rr a3 v3.toNat 0) v4.toNat 0 == ri (rr a7 v3.toNat 0) v4.toNat 0 && (ri (rr a3 v3.toNat 0) v4.toNat 1 == ri (rr a7 v3.toNat 0) v4.toNat 1 && (ri (rr a3 v3.toNat 0) v4.toNat 2 == ri (rr a7 v3.toNat 0) v4.toNat 2 && (ri (rr a3 v3.toNat 0) v4.toNat 3 == ri (rr a7 v3.toNat 0) v4.toNat 3 && (ri (rr a3 v3.toNat 0) v4.toNat 4 == ri (rr a7 v3.toNat 0) v4.toNat 4 && ri (rr a3 v3.toNat 0) v4.toNat 5 == ri (rr a7 v3.toNat 0) v4.toNat 5)))))))))
 (W.ret (Sum.inl (IntKind.i64.wrap (v4 + 1)))))
 (W.ret (Sum.inr (Sum.inr (v4, decide (v4 < (↑(List.length (rr a3 v3.toNat 0)) : Int))))))) 0)
 (W.sum (fun v5 =>
 W.ret (Sum.inr (Sum.inl ()))) (fun v6 =>
 W.ret (Sum.inl (IntKind.i64.wrap (v3 + 1)))))))
 (W.ret (Sum.inr (Sum.inr ())))) 0)
 (W.sum (fun v7 =>
 W.ret false) (fun v8 =>
 W.ret true)))))

/-- spillway/spillwaylaw16.fixed -/
def g_law16_fixed : W (Bool) :=
 W.bind (g_seal_Encode (false) ([[I 0, I 10], [I (-19), I 31]]) (false) ([[AV.sl false 0 [[I 16, I 2, I (-20), I 30, I (-19), I 31]]]])) fun v0 =>
 W.bind (g_seal_Decode (false) ([[I 83], [I 87], [I 67], [I 49], [I 2], [I 0], [I 20], [I 37], [I 62], [I 1], [I 1], [I 16], [I 2], [I 39], [I 60], [I 37], [I 62]])) fun v1 =>
 W.bind (α := Bool) (W.bind (g_law16_same (v0.snd.snd.snd.fst) (v0.snd.snd.snd.snd) (false) ([[I 83], [I 87], [I 67], [I 49], [I 2], [I 0], [I 20], [I 37], [I 62], [I 1], [I 1], [I 16], [I 2], [I 39], [I 60], [I 37], [I 62]])) fun v2 =>
 W.ite (v2 && (v0.fst == 0 && (v0.snd.fst == 0 && v0.snd.snd.fst == 0))) (W.bind (g_ref15_Same (v1.snd.snd.snd.fst) (v1.snd.snd.snd.snd.fst) (v1.snd.snd.snd.snd.snd.fst) (v1.snd.snd.snd.snd.snd.snd) (false) ([[I 0, I 10], [I (-19), I 31]]) (false) ([[AV.sl false 0 [[I 16, I 2, I (-20), I 30, I (-19), I 31]]]])) fun v3 =>
 W.ret (v3 && (v1.fst == 0 && (v1.snd.fst == 0 && v1.snd.snd.fst == 0))))
 (W.ret false))
 fun v4 =>
 W.ret v4

/-- spillway/spillwaylaw16.SealEncodes -/
def g_law16_SealEncodes (a0 : Bool) (a1 : Rws) (a2 : Bool) (a3 : Rws) : W (Bool) :=
 W.bind (g_ref15_Copy (a0) (a1) (a2) (a3)) fun v0 =>
 W.bind (g_seal_Encode (a0) (a1) (a2) (a3)) fun v1 =>
 W.bind (g_ref16_Encode (v0.fst) (v0.snd.fst) (v0.snd.snd.fst) (v0.snd.snd.snd)) fun v2 =>
 W.bind (α := Bool) (W.bind (g_law16_fixed ) fun v3 =>
 W.ite (v3 && (v1.fst == v2.fst && (v1.snd.fst == v2.snd.fst && v1.snd.snd.fst == v2.snd.snd.fst))) (W.bind (g_law16_same (v1.snd.snd.snd.fst) (v1.snd.snd.snd.snd) (v2.snd.snd.snd.fst) (v2.snd.snd.snd.snd)) fun v4 =>
 W.ite (v4) (W.bind (g_ref15_Same (a0) (a1) (a2) (a3) (v0.fst) (v0.snd.fst) (v0.snd.snd.fst) (v0.snd.snd.snd)) fun v5 =>
 W.ret v5)
 (W.ret false))
 (W.ret false))
 fun v6 =>
 W.ret v6

/-- spillway/spillwayref09.Front -/
def g_ref09_Front (a0 : Bool) (a1 : Rws) (a2 : ByteArray) : W (Bool × Rws × Int) :=
 W.ite (decide ((↑(List.length a1) : Int) < 4)) (W.ret (true, [], 40))
 (W.need ((0 : Int) ≤ (0 : Int) ∧ (0 : Int) < (↑(List.length a1) : Int)) <|
 W.need ((0 : Int) ≤ (0 : Int) ∧ (0 : Int) < (↑a2.size : Int)) <|
 W.ite (ri a1 0 0 != byteAt a2 0) (W.ret (true, [], 41))
 (W.need ((0 : Int) ≤ (1 : Int) ∧ (1 : Int) < (↑(List.length a1) : Int)) <|
 W.need ((0 : Int) ≤ (1 : Int) ∧ (1 : Int) < (↑a2.size : Int)) <|
 W.ite (ri a1 1 0 != byteAt a2 1) (W.ret (true, [], 41))
 (W.need ((0 : Int) ≤ (2 : Int) ∧ (2 : Int) < (↑(List.length a1) : Int)) <|
 W.need ((0 : Int) ≤ (2 : Int) ∧ (2 : Int) < (↑a2.size : Int)) <|
 W.ite (ri a1 2 0 != byteAt a2 2) (W.ret (true, [], 41))
 (W.need ((0 : Int) ≤ (3 : Int) ∧ (3 : Int) < (↑(List.length a1) : Int)) <|
 W.need ((0 : Int) ≤ (3 : Int) ∧ (3 : Int) < (↑a2.size : Int)) <|
 W.ite (ri a1 3 0 != byteAt a2 3) (W.ret (true, [], 41))
 (W.need ((0 : Int) ≤ (4 : Int) ∧ (4 : Int) ≤ (↑(List.length a1) : Int) ∧ (↑(List.length a1) : Int) ≤ (↑(List.length a1) : Int)) <|
 W.ret (a0, List.take ((↑(List.length a1) : Int) - 4).toNat (List.drop 4 a1), 0))))))

/-- spillway/spillwayref04.Get -/
def g_ref04_Get (a0 : Bool) (a1 : Rws) : W (Int × Int × Int) :=
 W.bind (W.loop (σ := Int × Int) (ε := (Int × Int × Int) ⊕ (Unit)) (fun v0 =>
 W.ite (decide (v0.snd < (↑(List.length a1) : Int)) && decide (v0.snd < 10)) (W.need (0 ≤ v0.snd ∧ v0.snd < (↑(List.length a1) : Int)) <|
 W.ite (v0.snd == 9 && decide (1 < IntKind.u64.wrap (ri a1 v0.snd.toNat 0))) (W.ret (Sum.inr (Sum.inl (0, 0, 41))))
 (W.need (0 ≤ IntKind.u64.wrap (IntKind.i64.wrap (7 * v0.snd))) <|
 W.ite (decide (IntKind.u64.wrap (ri a1 v0.snd.toNat 0) < 128)) (W.ite (IntKind.u64.wrap (ri a1 v0.snd.toNat 0) == 0 && decide (0 < v0.snd)) (W.ret (Sum.inr (Sum.inl (0, 0, 41))))
 (W.ret (Sum.inr (Sum.inl (ibits BinOp.or IntKind.u64 v0.fst (IntKind.u64.wrap ((IntKind.u64.wrap (ri a1 v0.snd.toNat 0)).tmod 128 * 2 ^ min (IntKind.u64.wrap (IntKind.i64.wrap (7 * v0.snd))).toNat 64)), IntKind.i64.wrap (v0.snd + 1), 0)))))
 (W.ret (Sum.inl (ibits BinOp.or IntKind.u64 v0.fst (IntKind.u64.wrap ((IntKind.u64.wrap (ri a1 v0.snd.toNat 0)).tmod 128 * 2 ^ min (IntKind.u64.wrap (IntKind.i64.wrap (7 * v0.snd))).toNat 64)), IntKind.i64.wrap (v0.snd + 1))))))
 (W.ret (Sum.inr (Sum.inr ())))) (0, 0))
 (W.sum (fun v1 =>
 W.ret (v1.fst, v1.snd.fst, v1.snd.snd)) (fun v2 =>
 W.ret (0, 0, 40)))

/-- (*spillway/spillwayref04.Reader).N -/
def g___ref04_Reader__N_p (a0 : Int) (a1 : Bool) (a2 : Rws) (a3 : Int) (a4 : Int) (a5 : Int) (a6 : Int) (a7 : Int) (a8 : Int) : W (Int × Rws × Int) :=
 W.ite (a3 != 0) (W.ret (0, a2, a3))
 (W.bind (g_ref04_Get (a1) (a2)) fun v0 =>
 W.bind (α := Int) (W.ite (v0.snd.snd == 0 && (decide (a0 < 0) || decide (IntKind.u64.wrap a0 < v0.fst))) (W.ret 42)
 (W.ret v0.snd.snd))
 fun v1 =>
 W.ite (v1 != 0) (W.ret (0, a2, v1))
 (W.need (0 ≤ v0.snd.fst ∧ v0.snd.fst ≤ (↑(List.length a2) : Int) ∧ (↑(List.length a2) : Int) ≤ (↑(List.length a2) : Int)) <|
 W.ret (IntKind.i64.wrap v0.fst, List.take ((↑(List.length a2) : Int) - v0.snd.fst).toNat (List.drop v0.snd.fst.toNat a2), v1)))

/-- (*spillway/spillwayref16.in).note -/
def g___ref16_in__note_p (a0 : Int) (a1 : Bool) (a2 : Rws) (a3 : Int) (a4 : Int) (a5 : Int) (a6 : Int) (a7 : Int) (a8 : Int) : W (Int × Int × Int) :=
 W.ite (a0 != 0 && a6 == 0) (W.ret (a0, a4, a5))
 (W.ret (a6, a7, a8))

/-- (*spillway/spillwayref16.in).n -/
def g___ref16_in__n_p (a0 : Int) (a1 : Bool) (a2 : Rws) (a3 : Int) (a4 : Int) (a5 : Int) (a6 : Int) (a7 : Int) (a8 : Int) : W (Int × Rws × Int × Int × Int × Int) :=
 W.bind (g___ref04_Reader__N_p (a0) (a1) (a2) (a3) (a4) (a5) (a6) (a7) (a8)) fun v0 =>
 W.bind (g___ref16_in__note_p (v0.snd.snd) (a1) (v0.snd.fst) (v0.snd.snd) (a4) (a5) (a6) (a7) (a8)) fun v1 =>
 W.ret (v0.fst, v0.snd.fst, v0.snd.snd, v1.fst, v1.snd.fst, v1.snd.snd)

/-- (*spillway/spillwayref04.Reader).U -/
def g___ref04_Reader__U_p (a0 : Bool) (a1 : Rws) (a2 : Int) (a3 : Int) (a4 : Int) (a5 : Int) (a6 : Int) (a7 : Int) : W (Int × Rws × Int) :=
 W.ite (a2 != 0) (W.ret (0, a1, a2))
 (W.bind (g_ref04_Get (a0) (a1)) fun v0 =>
 W.need (0 ≤ v0.snd.fst ∧ v0.snd.fst ≤ (↑(List.length a1) : Int) ∧ (↑(List.length a1) : Int) ≤ (↑(List.length a1) : Int)) <|
 W.ret (v0.fst, List.take ((↑(List.length a1) : Int) - v0.snd.fst).toNat (List.drop v0.snd.fst.toNat a1), v0.snd.snd))

/-- spillway/spillwayref04.Unfold -/
def g_ref04_Unfold (a0 : Int) : W (Int) :=
 W.ite (a0.tmod 2 == 0) (W.ret (IntKind.i64.wrap (IntKind.u64.wrap (a0.tdiv 2))))
 (W.ret (IntKind.i64.wrap (IntKind.i64.wrap (0 - IntKind.i64.wrap (IntKind.u64.wrap (a0.tdiv 2))) - 1)))

/-- (*spillway/spillwayref04.Reader).S -/
def g___ref04_Reader__S_p (a0 : Bool) (a1 : Rws) (a2 : Int) (a3 : Int) (a4 : Int) (a5 : Int) (a6 : Int) (a7 : Int) : W (Int × Rws × Int) :=
 W.bind (g___ref04_Reader__U_p (a0) (a1) (a2) (a3) (a4) (a5) (a6) (a7)) fun v0 =>
 W.bind (g_ref04_Unfold (v0.fst)) fun v1 =>
 W.ret (v1, v0.snd.fst, v0.snd.snd)

/-- (*spillway/spillwayref16.in).span -/
def g___ref16_in__span_p (a0 : Bool) (a1 : Rws) (a2 : Int) (a3 : Int) (a4 : Int) (a5 : Int) (a6 : Int) (a7 : Int) : W (Int × Int × Rws × Int × Int × Int × Int) :=
 W.bind (g___ref04_Reader__S_p (a0) (a1) (a2) (a3) (a4) (a5) (a6) (a7)) fun v0 =>
 W.bind (g___ref16_in__note_p (v0.snd.snd) (a0) (v0.snd.fst) (v0.snd.snd) (a3) (a4) (a5) (a6) (a7)) fun v1 =>
 W.bind (g___ref04_Reader__S_p (a0) (v0.snd.fst) (v0.snd.snd) (a3) (a4) (v1.fst) (v1.snd.fst) (v1.snd.snd)) fun v2 =>
 W.bind (g___ref16_in__note_p (v2.snd.snd) (a0) (v2.snd.fst) (v2.snd.snd) (a3) (a4) (v1.fst) (v1.snd.fst) (v1.snd.snd)) fun v3 =>
 W.ret (v0.fst, v2.fst, v2.snd.fst, v2.snd.snd, v3.fst, v3.snd.fst, v3.snd.snd)

/-- (*spillway/spillwayref16.in).u -/
def g___ref16_in__u_p (a0 : Bool) (a1 : Rws) (a2 : Int) (a3 : Int) (a4 : Int) (a5 : Int) (a6 : Int) (a7 : Int) : W (Int × Rws × Int × Int × Int × Int) :=
 W.bind (g___ref04_Reader__U_p (a0) (a1) (a2) (a3) (a4) (a5) (a6) (a7)) fun v0 =>
 W.bind (g___ref16_in__note_p (v0.snd.snd) (a0) (v0.snd.fst) (v0.snd.snd) (a3) (a4) (a5) (a6) (a7)) fun v1 =>
 W.ite (decide (2147483647 < v0.fst)) (W.bind (g___ref16_in__note_p (41) (a0) (v0.snd.fst) (v0.snd.snd) (a3) (a4) (v1.fst) (v1.snd.fst) (v1.snd.snd)) fun v2 =>
 W.ret (0, v0.snd.fst, v0.snd.snd, v2.fst, v2.snd.fst, v2.snd.snd))
 (W.ret (IntKind.i64.wrap v0.fst, v0.snd.fst, v0.snd.snd, v1.fst, v1.snd.fst, v1.snd.snd))

/-- (*spillway/spillwayref16.in).plan -/
def g___ref16_in__plan_p (a0 : Bool) (a1 : Rws) (a2 : Int) (a3 : Int) (a4 : Int) (a5 : Int) (a6 : Int) (a7 : Int) : W (Int × Int × Int × Int × Int × Int × Rws × Int × Int × Int × Int) :=
 W.bind (g___ref16_in__u_p (a0) (a1) (a2) (a3) (a4) (a5) (a6) (a7)) fun v0 =>
 W.bind (g___ref16_in__u_p (a0) (v0.snd.fst) (v0.snd.snd.fst) (a3) (a4) (v0.snd.snd.snd.fst) (v0.snd.snd.snd.snd.fst) (v0.snd.snd.snd.snd.snd)) fun v1 =>
 W.bind (g___ref16_in__span_p (a0) (v1.snd.fst) (v1.snd.snd.fst) (a3) (a4) (v1.snd.snd.snd.fst) (v1.snd.snd.snd.snd.fst) (v1.snd.snd.snd.snd.snd)) fun v2 =>
 W.bind (g___ref16_in__span_p (a0) (v2.snd.snd.fst) (v2.snd.snd.snd.fst) (a3) (a4) (v2.snd.snd.snd.snd.fst) (v2.snd.snd.snd.snd.snd.fst) (v2.snd.snd.snd.snd.snd.snd)) fun v3 =>
 W.ret (v0.fst, v1.fst, v2.fst, v2.snd.fst, v3.fst, v3.snd.fst, v3.snd.snd.fst, v3.snd.snd.snd.fst, v3.snd.snd.snd.snd.fst, v3.snd.snd.snd.snd.snd.fst, v3.snd.snd.snd.snd.snd.snd)

/-- (*spillway/spillwayref16.in).list -/
def g___ref16_in__list_p (a0 : Bool) (a1 : Rws) (a2 : Int) (a3 : Int) (a4 : Int) (a5 : Int) (a6 : Int) (a7 : Int) : W (Rws × Int × Int × Int × Int × Int × Bool × Rws) :=
 W.bind (g___ref16_in__n_p (1024) (a0) (a1) (a2) (a3) (a4) (a5) (a6) (a7)) fun v0 =>
 W.bind (W.loop (σ := Int × Rws × Int × Int × Int × Int × Int × Bool × Rws) (ε := Rws × Int × Int × Int × Int × Int × Bool × Rws) (fun v1 =>
 W.ite (decide (v1.fst < v0.fst) && v1.snd.snd.snd.snd.fst == 0) (W.bind (g___ref16_in__plan_p (a0) (v1.snd.fst) (v1.snd.snd.fst) (a3) (IntKind.i64.wrap (v1.fst + 1)) (v1.snd.snd.snd.snd.fst) (v1.snd.snd.snd.snd.snd.fst) (v1.snd.snd.snd.snd.snd.snd.fst)) fun v2 =>
 W.need ((List.length v1.snd.snd.snd.snd.snd.snd.snd.snd + 1) * 48 ≤ 140737488355328) <|
 W.ret (Sum.inl (IntKind.i64.wrap (v1.fst + 1), v2.snd.snd.snd.snd.snd.snd.fst, v2.snd.snd.snd.snd.snd.snd.snd.fst, IntKind.i64.wrap (v1.fst + 1), v2.snd.snd.snd.snd.snd.snd.snd.snd.fst, v2.snd.snd.snd.snd.snd.snd.snd.snd.snd.fst, v2.snd.snd.snd.snd.snd.snd.snd.snd.snd.snd, v1.snd.snd.snd.snd.snd.snd.snd.fst && false, v1.snd.snd.snd.snd.snd.snd.snd.snd ++ [[I v2.fst, I v2.snd.fst, I v2.snd.snd.fst, I v2.snd.snd.snd.fst, I v2.snd.snd.snd.snd.fst, I v2.snd.snd.snd.snd.snd.fst]])))
 (W.ret (Sum.inr (v1.snd.fst, v1.snd.snd.fst, v1.snd.snd.snd.fst, v1.snd.snd.snd.snd.fst, v1.snd.snd.snd.snd.snd.fst, v1.snd.snd.snd.snd.snd.snd.fst, v1.snd.snd.snd.snd.snd.snd.snd.fst, v1.snd.snd.snd.snd.snd.snd.snd.snd)))) (0, v0.snd.fst, v0.snd.snd.fst, a4, v0.snd.snd.snd.fst, v0.snd.snd.snd.snd.fst, v0.snd.snd.snd.snd.snd, true, []))
 (fun v3 =>
 W.ret (v3.fst, v3.snd.fst, 0, v3.snd.snd.snd.fst, v3.snd.snd.snd.snd.fst, v3.snd.snd.snd.snd.snd.fst, v3.snd.snd.snd.snd.snd.snd.fst, v3.snd.snd.snd.snd.snd.snd.snd))

/-- (*spillway/spillwayref04.Reader).End -/
def g___ref04_Reader__End_p (a0 : Bool) (a1 : Rws) (a2 : Int) (a3 : Int) (a4 : Int) (a5 : Int) (a6 : Int) (a7 : Int) : W (Int) :=
 W.ite (a2 == 0 && decide (0 < (↑(List.length a1) : Int))) (W.ret 43)
 (W.ret a2)

/-- spillway/spillwayref16.Decode -/
def g_ref16_Decode (a0 : Bool) (a1 : Rws) : W (Int × Int × Int × Bool × Rws × Bool × Rws) :=
 W.bind (g_ref09_Front (a0) (a1) (bs [83, 87, 67, 49])) fun v0 =>
 W.ite (v0.snd.snd != 0) (W.ret (v0.snd.snd, 0, 0, true, [], true, []))
 (W.bind (g___ref16_in__n_p (65) (v0.fst) (v0.snd.fst) (0) (0) (0) (0) (0) (0)) fun v1 =>
 W.bind (W.loop (σ := Int × Rws × Int × Int × Int × Int × Bool × Rws) (ε := Rws × Int × Int × Int × Int × Bool × Rws) (fun v2 =>
 W.ite (decide (v2.fst < v1.fst) && v2.snd.snd.snd.fst == 0) (W.bind (g___ref16_in__span_p (v0.fst) (v2.snd.fst) (v2.snd.snd.fst) (0) (0) (v2.snd.snd.snd.fst) (v2.snd.snd.snd.snd.fst) (v2.snd.snd.snd.snd.snd.fst)) fun v3 =>
 W.need ((List.length v2.snd.snd.snd.snd.snd.snd.snd + 1) * 16 ≤ 140737488355328) <|
 W.ret (Sum.inl (IntKind.i64.wrap (v2.fst + 1), v3.snd.snd.fst, v3.snd.snd.snd.fst, v3.snd.snd.snd.snd.fst, v3.snd.snd.snd.snd.snd.fst, v3.snd.snd.snd.snd.snd.snd, v2.snd.snd.snd.snd.snd.snd.fst && false, v2.snd.snd.snd.snd.snd.snd.snd ++ [[I v3.fst, I v3.snd.fst]])))
 (W.ret (Sum.inr (v2.snd.fst, v2.snd.snd.fst, v2.snd.snd.snd.fst, v2.snd.snd.snd.snd.fst, v2.snd.snd.snd.snd.snd.fst, v2.snd.snd.snd.snd.snd.snd.fst, v2.snd.snd.snd.snd.snd.snd.snd)))) (0, v1.snd.fst, v1.snd.snd.fst, v1.snd.snd.snd.fst, v1.snd.snd.snd.snd.fst, v1.snd.snd.snd.snd.snd, true, []))
 (fun v4 =>
 W.bind (g___ref16_in__n_p (64) (v0.fst) (v4.fst) (v4.snd.fst) (0) (0) (v4.snd.snd.fst) (v4.snd.snd.snd.fst) (v4.snd.snd.snd.snd.fst)) fun v5 =>
 W.bind (W.loop (σ := Int × Rws × Int × Int × Int × Int × Int × Int × Bool × Rws) (ε := Rws × Int × Int × Int × Int × Int × Int × Bool × Rws) (fun v6 =>
 W.ite (decide (v6.fst < v5.fst) && v6.snd.snd.snd.snd.snd.fst == 0) (W.bind (g___ref16_in__list_p (v0.fst) (v6.snd.fst) (v6.snd.snd.fst) (IntKind.i64.wrap (v6.fst + 1)) (v6.snd.snd.snd.snd.fst) (v6.snd.snd.snd.snd.snd.fst) (v6.snd.snd.snd.snd.snd.snd.fst) (v6.snd.snd.snd.snd.snd.snd.snd.fst)) fun v7 =>
 W.need ((List.length v6.snd.snd.snd.snd.snd.snd.snd.snd.snd + 1) * 24 ≤ 140737488355328) <|
 W.ret (Sum.inl (IntKind.i64.wrap (v6.fst + 1), v7.fst, v7.snd.fst, IntKind.i64.wrap (v6.fst + 1), v7.snd.snd.fst, v7.snd.snd.snd.fst, v7.snd.snd.snd.snd.fst, v7.snd.snd.snd.snd.snd.fst, v6.snd.snd.snd.snd.snd.snd.snd.snd.fst && false, v6.snd.snd.snd.snd.snd.snd.snd.snd.snd ++ [[AV.sl v7.snd.snd.snd.snd.snd.snd.fst 0 v7.snd.snd.snd.snd.snd.snd.snd]])))
 (W.ret (Sum.inr (v6.snd.fst, v6.snd.snd.fst, v6.snd.snd.snd.fst, v6.snd.snd.snd.snd.fst, v6.snd.snd.snd.snd.snd.fst, v6.snd.snd.snd.snd.snd.snd.fst, v6.snd.snd.snd.snd.snd.snd.snd.fst, v6.snd.snd.snd.snd.snd.snd.snd.snd.fst, v6.snd.snd.snd.snd.snd.snd.snd.snd.snd)))) (0, v5.snd.fst, v5.snd.snd.fst, 0, 0, v5.snd.snd.snd.fst, v5.snd.snd.snd.snd.fst, v5.snd.snd.snd.snd.snd, true, []))
 (fun v8 =>
 W.bind (g___ref04_Reader__End_p (v0.fst) (v8.fst) (v8.snd.fst) (0) (v8.snd.snd.snd.fst) (v8.snd.snd.snd.snd.fst) (v8.snd.snd.snd.snd.snd.fst) (v8.snd.snd.snd.snd.snd.snd.fst)) fun v9 =>
 W.bind (g___ref16_in__note_p (v9) (v0.fst) (v8.fst) (v8.snd.fst) (0) (v8.snd.snd.snd.fst) (v8.snd.snd.snd.snd.fst) (v8.snd.snd.snd.snd.snd.fst) (v8.snd.snd.snd.snd.snd.snd.fst)) fun v10 =>
 W.ite (v10.fst != 0) (W.ret (v10.fst, v10.snd.fst, v10.snd.snd, true, [], true, []))
 (W.ret (0, 0, 0, v4.snd.snd.snd.snd.snd.fst, v4.snd.snd.snd.snd.snd.snd, v8.snd.snd.snd.snd.snd.snd.snd.fst, v8.snd.snd.snd.snd.snd.snd.snd.snd)))))

/-- spillway/spillwaylaw16.SealDecodes -/
def g_law16_SealDecodes (a0 : Bool) (a1 : Rws) : W (Bool) :=
 W.need ((0 + List.length a1) * 1 ≤ 140737488355328) <|
 W.bind (g_seal_Decode (a0) (a1)) fun v0 =>
 W.bind (g_ref16_Decode (false) (a1)) fun v1 =>
 W.bind (α := Bool) (W.bind (g_law16_fixed ) fun v2 =>
 W.ite (v2 && (v0.fst == v1.fst && (v0.snd.fst == v1.snd.fst && v0.snd.snd.fst == v1.snd.snd.fst))) (W.bind (g_ref15_Same (v0.snd.snd.snd.fst) (v0.snd.snd.snd.snd.fst) (v0.snd.snd.snd.snd.snd.fst) (v0.snd.snd.snd.snd.snd.snd) (v1.snd.snd.snd.fst) (v1.snd.snd.snd.snd.fst) (v1.snd.snd.snd.snd.snd.fst) (v1.snd.snd.snd.snd.snd.snd)) fun v3 =>
 W.ite (v3) (W.bind (g_law16_same (a0) (a1) (false) (a1)) fun v4 =>
 W.ret v4)
 (W.ret false))
 (W.ret false))
 fun v5 =>
 W.ret v5

/-- spillway/spillwaylaw16.SealCuts -/
def g_law16_SealCuts (a0 : Bool) (a1 : Rws) (a2 : Bool) (a3 : Rws) (a4 : Int) (a5 : Int) : W (Bool) :=
 W.bind (g_seal_Encode (a0) (a1) (a2) (a3)) fun v0 =>
 W.bind (g_law16_fixed ) fun v1 =>
 W.ite (!v1 || v0.fst != 0 || (↑(List.length v0.snd.snd.snd.snd) : Int) == 0) (W.bind (g_law16_fixed ) fun v2 =>
 W.ret (v2 && v0.fst != 0))
 (W.need (IntKind.u64.wrap (↑(List.length v0.snd.snd.snd.snd) : Int) ≠ 0) <|
 W.need ((0 : Int) ≤ (0 : Int) ∧ (0 : Int) ≤ IntKind.i64.wrap ((IntKind.u64.wrap a4).tmod (IntKind.u64.wrap (↑(List.length v0.snd.snd.snd.snd) : Int))) ∧ IntKind.i64.wrap ((IntKind.u64.wrap a4).tmod (IntKind.u64.wrap (↑(List.length v0.snd.snd.snd.snd) : Int))) ≤ (↑(List.length v0.snd.snd.snd.snd) : Int)) <|
 W.bind (g_seal_Decode (v0.snd.snd.snd.fst) (List.take (IntKind.i64.wrap ((IntKind.u64.wrap a4).tmod (IntKind.u64.wrap (↑(List.length v0.snd.snd.snd.snd) : Int))) - 0).toNat (List.drop 0 v0.snd.snd.snd.snd))) fun v3 =>
 W.need ((0 + List.length v0.snd.snd.snd.snd) * 1 ≤ 140737488355328) <|
 W.need ((List.length v0.snd.snd.snd.snd + 1) * 1 ≤ 140737488355328) <|
 W.bind (g_seal_Decode (false) (v0.snd.snd.snd.snd ++ [[I a5]])) fun v4 =>
 W.ret (v3.fst == 40 && (v4.fst == 43 && (v4.snd.fst == 0 && v4.snd.snd.fst == 0))))

/-- slices.Equal[[]spillway/api.Span,spillway/api.Span] -/
def g_slices_Equal___api_Span_api_Span_ (a0 : Bool) (a1 : Rws) (a2 : Bool) (a3 : Rws) : W (Bool) :=
 W.ite ((↑(List.length a1) : Int) != (↑(List.length a3) : Int)) (W.ret false)
 (W.bind (W.loop (σ := Int) (ε := (Unit) ⊕ (Unit)) (fun v0 =>
 W.ite (decide (v0 < (↑(List.length a1) : Int))) (W.need (0 ≤ v0 ∧ v0 < (↑(List.length a1) : Int)) <|
 W.need (0 ≤ v0 ∧ v0 < (↑(List.length a3) : Int)) <|
 W.ite (!(ri a1 v0.toNat 0 == ri a3 v0.toNat 0 && ri a1 v0.toNat 1 == ri a3 v0.toNat 1)) (W.ret (Sum.inr (Sum.inl ())))
 (W.ret (Sum.inl (IntKind.i64.wrap (v0 + 1)))))
 (W.ret (Sum.inr (Sum.inr ())))) 0)
 (W.sum (fun v1 =>
 W.ret false) (fun v2 =>
 W.ret true)))

/-- slices.Equal[[]spillway/api.Chan,spillway/api.Chan] -/
def g_slices_Equal___api_Chan_api_Chan_ (a0 : Bool) (a1 : Rws) (a2 : Bool) (a3 : Rws) : W (Bool) :=
 W.ite ((↑(List.length a1) : Int) != (↑(List.length a3) : Int)) (W.ret false)
 (W.bind (W.loop (σ := Int) (ε := (Unit) ⊕ (Unit)) (fun v0 =>
 W.ite (decide (v0 < (↑(List.length a1) : Int))) (W.need (0 ≤ v0 ∧ v0 < (↑(List.length a1) : Int)) <|
 W.need (0 ≤ v0 ∧ v0 < (↑(List.length a3) : Int)) <|
 W.ite (!(ri a1 v0.toNat 0 == ri a3 v0.toNat 0 && (ri a1 v0.toNat 1 == ri a3 v0.toNat 1 && (ri a1 v0.toNat 2 == ri a3 v0.toNat 2 && (ri a1 v0.toNat 3 == ri a3 v0.toNat 3 && (ri a1 v0.toNat 4 == ri a3 v0.toNat 4 && ri a1 v0.toNat 5 == ri a3 v0.toNat 5)))))) (W.ret (Sum.inr (Sum.inl ())))
 (W.ret (Sum.inl (IntKind.i64.wrap (v0 + 1)))))
 (W.ret (Sum.inr (Sum.inr ())))) 0)
 (W.sum (fun v1 =>
 W.ret false) (fun v2 =>
 W.ret true)))

/-- slices.EqualFunc[[][]spillway/api.Chan,[][]spillway/api.Chan,[]spillway/api.Chan,[]spillway/api.Chan] -/
def g_slices_EqualFunc_____api_Chan_____api_Chan___api_Chan___api_Chan___slices_Equal___api_Chan_api_Chan_ (a0 : Bool) (a1 : Rws) (a2 : Bool) (a3 : Rws) : W (Bool) :=
 W.ite ((↑(List.length a1) : Int) != (↑(List.length a3) : Int)) (W.ret false)
 (W.bind (W.loop (σ := Int) (ε := (Unit) ⊕ (Unit)) (fun v0 =>
 W.ite (decide (v0 < (↑(List.length a1) : Int))) (W.need (0 ≤ v0 ∧ v0 < (↑(List.length a1) : Int)) <|
 W.need (0 ≤ v0 ∧ v0 < (↑(List.length a3) : Int)) <|
 W.bind (g_slices_Equal___api_Chan_api_Chan_ (rn a1 v0.toNat 0) (rr a1 v0.toNat 0) (rn a3 v0.toNat 0) (rr a3 v0.toNat 0)) fun v1 =>
 W.ite (!v1) (W.ret (Sum.inr (Sum.inl ())))
 (W.ret (Sum.inl (IntKind.i64.wrap (v0 + 1)))))
 (W.ret (Sum.inr (Sum.inr ())))) 0)
 (W.sum (fun v2 =>
 W.ret false) (fun v3 =>
 W.ret true)))

/-- spillway/cert.Same -/
def g_cert_Same (a0 : Bool) (a1 : Rws) (a2 : Bool) (a3 : Rws) (a4 : Bool) (a5 : Rws) (a6 : Bool) (a7 : Rws) : W (Bool) :=
 W.bind (α := Bool) (W.bind (g_slices_Equal___api_Span_api_Span_ (a0) (a1) (a4) (a5)) fun v0 =>
 W.ite (v0) (W.bind (g_slices_EqualFunc_____api_Chan_____api_Chan___api_Chan___api_Chan___slices_Equal___api_Chan_api_Chan_ (a2) (a3) (a6) (a7)) fun v1 =>
 W.ret v1)
 (W.ret false))
 fun v2 =>
 W.ret v2

/-- spillway/spillwaylaw16.SealBack -/
def g_law16_SealBack (a0 : Bool) (a1 : Rws) (a2 : Bool) (a3 : Rws) (a4 : Bool) (a5 : Rws) : W (Bool) :=
 W.bind (g_law16_fixed ) fun v0 =>
 W.ite (!v0) (W.ret false)
 (W.bind (g_seal_Encode (a0) (a1) (a2) (a3)) fun v1 =>
 W.bind (α := (Unit) ⊕ (Bool)) (W.ite (v1.fst == 0) (W.bind (g_seal_Decode (v1.snd.snd.snd.fst) (v1.snd.snd.snd.snd)) fun v2 =>
 W.bind (α := Bool) (W.ite (v2.fst != 0) (W.ret true)
 (W.bind (g_cert_Same (a0) (a1) (a2) (a3) (v2.snd.snd.snd.fst) (v2.snd.snd.snd.snd.fst) (v2.snd.snd.snd.snd.snd.fst) (v2.snd.snd.snd.snd.snd.snd)) fun v3 =>
 W.ret !v3))
 fun v4 =>
 W.ite (v4) (W.ret (Sum.inr false))
 (W.ret (Sum.inl ())))
 (W.ite ((↑(List.length v1.snd.snd.snd.snd) : Int) != 0) (W.ret (Sum.inr false))
 (W.ret (Sum.inl ()))))
 (W.els fun v5 =>
 W.bind (g_seal_Decode (a4) (a5)) fun v6 =>
 W.ite (v6.fst != 0) (W.ret ((↑(List.length v6.snd.snd.snd.snd.fst) : Int) == 0 && (↑(List.length v6.snd.snd.snd.snd.snd.snd) : Int) == 0))
 (W.bind (g_seal_Encode (v6.snd.snd.snd.fst) (v6.snd.snd.snd.snd.fst) (v6.snd.snd.snd.snd.snd.fst) (v6.snd.snd.snd.snd.snd.snd)) fun v7 =>
 W.bind (α := Bool) (W.ite (v7.fst == 0 && (v7.snd.fst == 0 && v7.snd.snd.fst == 0)) (W.bind (g_law16_same (v7.snd.snd.snd.fst) (v7.snd.snd.snd.snd) (a4) (a5)) fun v8 =>
 W.ret v8)
 (W.ret false))
 fun v9 =>
 W.ret v9)))

/-- spillway/spillwayref16.Decode -/
def g_ref16_Decode_2 (a0 : Bool) (a1 : Rws) : W (Int × Int × Int × Bool × Rws × Bool × Rws) :=
 W.bind (g_ref09_Front (a0) (a1) (bs [83, 87, 67, 49])) fun v0 =>
 W.ite (v0.snd.snd != 0) (W.ret (v0.snd.snd, 0, 0, true, [], true, []))
 (W.bind (g___ref16_in__n_p (65) (v0.fst) (v0.snd.fst) (0) (0) (0) (0) (0) (0)) fun v1 =>
 W.bind (W.loop (σ := Int × Rws × Int × Int × Int × Int × Bool × Rws) (ε := Rws × Int × Int × Int × Int × Bool × Rws) (fun v2 =>
 W.ite (decide (v2.fst < v1.fst) && v2.snd.snd.snd.fst == 0) (W.bind (g___ref16_in__span_p (v0.fst) (v2.snd.fst) (v2.snd.snd.fst) (0) (0) (v2.snd.snd.snd.fst) (v2.snd.snd.snd.snd.fst) (v2.snd.snd.snd.snd.snd.fst)) fun v3 =>
 W.need ((List.length v2.snd.snd.snd.snd.snd.snd.snd + 1) * 16 ≤ 140737488355328) <|
 W.ret (Sum.inl (IntKind.i64.wrap (v2.fst + 1), v3.snd.snd.fst, v3.snd.snd.snd.fst, v3.snd.snd.snd.snd.fst, v3.snd.snd.snd.snd.snd.fst, v3.snd.snd.snd.snd.snd.snd, v2.snd.snd.snd.snd.snd.snd.fst && false, v2.snd.snd.snd.snd.snd.snd.snd ++ [[I v3.fst, I v3.snd.fst]])))
 (W.ret (Sum.inr (v2.snd.fst, v2.snd.snd.fst, v2.snd.snd.snd.fst, v2.snd.snd.snd.snd.fst, v2.snd.snd.snd.snd.snd.fst, v2.snd.snd.snd.snd.snd.snd.fst, v2.snd.snd.snd.snd.snd.snd.snd)))) (0, v1.snd.fst, v1.snd.snd.fst, v1.snd.snd.snd.fst, v1.snd.snd.snd.snd.fst, v1.snd.snd.snd.snd.snd, true, []))
 (fun v4 =>
 W.bind (g___ref16_in__n_p (64) (v0.fst) (v4.fst) (v4.snd.fst) (0) (0) (v4.snd.snd.fst) (v4.snd.snd.snd.fst) (v4.snd.snd.snd.snd.fst)) fun v5 =>
 W.bind (W.loop (σ := Int × Rws × Int × Int × Int × Int × Int × Int × Bool × Rws) (ε := Rws × Int × Int × Int × Int × Int × Int × Bool × Rws) (fun v6 =>
 W.ite (decide (v6.fst < v5.fst) && v6.snd.snd.snd.snd.snd.fst == 0) (W.bind (g___ref16_in__list_p (v0.fst) (v6.snd.fst) (v6.snd.snd.fst) (IntKind.i64.wrap (v6.fst + 1)) (v6.snd.snd.snd.snd.fst) (v6.snd.snd.snd.snd.snd.fst) (v6.snd.snd.snd.snd.snd.snd.fst) (v6.snd.snd.snd.snd.snd.snd.snd.fst)) fun v7 =>
 W.need ((List.length v6.snd.snd.snd.snd.snd.snd.snd.snd.snd + 1) * 24 ≤ 140737488355328) <|
 W.ret (Sum.inl (IntKind.i64.wrap (v6.fst + 1), v7.fst, v7.snd.fst, IntKind.i64.wrap (v6.fst + 1), v7.snd.snd.fst, v7.snd.snd.snd.fst, v7.snd.snd.snd.snd.fst, v7.snd.snd.snd.snd.snd.fst, v6.snd.snd.snd.snd.snd.snd.snd.snd.fst && false, v6.snd.snd.snd.snd.snd.snd.snd.snd.snd ++ [[AV.sl v7.snd.snd.snd.snd.snd.snd.fst 0 v7.snd.snd.snd.snd.snd.snd.snd]])))
 (W.ret (Sum.inr (v6.snd.fst, v6.snd.snd.fst, v6.snd.snd.snd.fst, v6.snd.snd.snd.snd.fst, v6.snd.snd.snd.snd.snd.fst, v6.snd.snd.snd.snd.snd.snd.fst, v6.snd.snd.snd.snd.snd.snd.snd.fst, v6.snd.snd.snd.snd.snd.snd.snd.snd.fst, v6.snd.snd.snd.snd.snd.snd.snd.snd.snd)))) (0, v5.snd.fst, v5.snd.snd.fst, 0, 0, v5.snd.snd.snd.fst, v5.snd.snd.snd.snd.fst, v5.snd.snd.snd.snd.snd, true, []))
 (fun v8 =>
 W.bind (g___ref04_Reader__End_p (v0.fst) (v8.fst) (v8.snd.fst) (0) (v8.snd.snd.snd.fst) (v8.snd.snd.snd.snd.fst) (v8.snd.snd.snd.snd.snd.fst) (v8.snd.snd.snd.snd.snd.snd.fst)) fun v9 =>
 W.bind (g___ref16_in__note_p (v9) (v0.fst) (v8.fst) (v8.snd.fst) (0) (v8.snd.snd.snd.fst) (v8.snd.snd.snd.snd.fst) (v8.snd.snd.snd.snd.snd.fst) (v8.snd.snd.snd.snd.snd.snd.fst)) fun v10 =>
 W.ite (v10.fst != 0) (W.ret (v10.fst, v10.snd.fst, v10.snd.snd, true, [], true, []))
 (W.ret (0, 0, 0, v4.snd.snd.snd.snd.snd.fst, v4.snd.snd.snd.snd.snd.snd, v8.snd.snd.snd.snd.snd.snd.snd.fst, v8.snd.snd.snd.snd.snd.snd.snd.snd)))))

/-- spillway/cert.Same -/
def g_cert_Same_2 (a0 : Bool) (a1 : Rws) (a2 : Bool) (a3 : Rws) (a4 : Bool) (a5 : Rws) (a6 : Bool) (a7 : Rws) : W (Bool) :=
 W.bind (α := Bool) (W.bind (g_slices_Equal___api_Span_api_Span_ (a0) (a1) (a4) (a5)) fun v0 =>
 W.ite (v0) (W.bind (g_slices_EqualFunc_____api_Chan_____api_Chan___api_Chan___api_Chan___slices_Equal___api_Chan_api_Chan_ (a2) (a3) (a6) (a7)) fun v1 =>
 W.ret v1)
 (W.ret false))
 fun v2 =>
 W.ret v2
end Go.Proofs.Ytfekobhcekcniaa.VX
