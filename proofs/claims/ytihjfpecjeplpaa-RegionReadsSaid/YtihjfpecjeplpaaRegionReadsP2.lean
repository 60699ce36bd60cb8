/- What the functions that RegionReads reaches compute (part 2); each for the inputs that its theorem names. -/
import Derived.Test.YtihjfpecjeplpaaRegionReadsP1
set_option linter.unusedSimpArgs false
set_option linter.unusedVariables false

/- What the regions of some functions hand on. Printed by a program of mine (gen.py). -/
set_option linter.unusedVariables false
namespace Go.Ax
open Go Go.Proofs
/-! ### interregnum/region.Lay -/
noncomputable def O14 (i : Nat) : Array Oper := opsOf i (bodyOf Try.f14)
noncomputable def B14_1 : Code := (.seq (.seq (.region 7 (O14 7) false) (.cond (Go.Operand.tmp 52) .skip (.exit 0))) (.seq (.block 1 (.seq (.region 9 (O14 9) false) (.seq (.region 10 (O14 10) false) (.seq (.region 11 (O14 11) false) (.cond (Go.Operand.tmp 72) (.seq (.region 12 (O14 12) false) .ret) .skip))))) (.region 8 (O14 8) false)))
theorem s14 : bodyOf Try.f14 = (.seq (.region 0 (O14 0) false) (.seq (.seq (.region 1 (O14 1) false) (.cond (Go.Operand.tmp 33) (.seq (.region 2 (O14 2) false) .ret) .skip)) (.seq (.region 3 (O14 3) false) (.seq (.seq (.region 4 (O14 4) false) (.cond (Go.Operand.tmp 49) (.seq (.region 5 (O14 5) false) .ret) .skip)) (.seq (.seq (.region 6 (O14 6) false) (.block 0 (.loop B14_1))) (.seq (.seq (.region 13 (O14 13) false) (.seq (.region 14 (O14 14) false) (.cond (Go.Operand.tmp 77) (.seq (.region 15 (O14 15) false) .ret) .skip))) (.seq (.seq (.region 16 (O14 16) false) (.seq (.region 17 (O14 17) false) (.cond (Go.Operand.tmp 86) (.seq (.region 18 (O14 18) false) .ret) .skip))) (.seq (.seq (.region 19 (O14 19) false) (.seq (.region 20 (O14 20) false) (.cond (Go.Operand.tmp 91) (.seq (.region 21 (O14 21) false) .ret) .skip))) (.seq (.region 22 (O14 22) false) .ret))))))))) := by kernel_rfl
theorem e14 : E0 14 = some ⟨96, [10, 11], bodyOf Try.f14⟩ := by kernel_rfl
theorem r14_0 {β : Type} (call : CallF) (md : Bool) (n : Nat) (k : Ex → List AV → Heap → Option β) (x0 x1 x2 x3 x4 : AV) (h : Heap) :
    runK C0 call md 14 n (.region 0 (O14 0) false) k (st 96 [(0, x0), (1, x1), (2, x2), (3, x3), (4, x4)]) h =
    k .normal (st 96 [(0, x0), (1, x1), (2, x2), (3, x3), (4, x4)]) h
  := by kernel_rfl
def J14_1_6 {β : Type} (call : CallF) (md : Bool) (k : Ex → List AV → Heap → Option β) (x0 x1 x2 x3 x4 x30 x32 : AV) (h : Heap) : Option β :=
    bnd (aPick x30 (.bool true) x32) fun v1 =>
    k .normal (st 96 [(0, x0), (1, x1), (2, x2), (3, x3), (4, x4), (33, v1)]) h

theorem j14_1_6 {β : Type} (call : CallF) (md : Bool) (k : Ex → List AV → Heap → Option β) (x0 x1 x2 x3 x4 x19 x20 x21 x22 x23 x24 x25 x26 x27 x28 x29 x30 x31 x32 : AV) (h : Heap) :
    opsK C0 call md 14 (O14 1) ((O14 1).toList.drop 14) (st 96 [(0, x0), (1, x1), (2, x2), (3, x3), (4, x4), (19, x19), (20, x20), (21, x21), (22, x22), (23, x23), (24, x24), (25, x25), (26, x26), (27, x27), (28, x28), (29, x29), (30, x30), (31, x31), (32, x32)]) h (fun tm h => k .normal (clr (C0.keep 14 1) tm) h) = J14_1_6 call md k x0 x1 x2 x3 x4 x30 x32 h := by kernel_rfl
def J14_1_5 {β : Type} (call : CallF) (md : Bool) (k : Ex → List AV → Heap → Option β) (x0 x1 x2 x3 x4 x30 : AV) (h : Heap) : Option β :=
    onG false x30 (
      bnd (aBinC tab .lss 3 x1 (.int .i64 0) true) fun v3 =>
      J14_1_6 call md k x0 x1 x2 x3 x4 x30 v3 h) (
      J14_1_6 call md k x0 x1 x2 x3 x4 x30 .skip h)

theorem g14_1_5 {β : Type} (call : CallF) (md : Bool) (kk : List AV → Heap → Option β) (x0 x1 x2 x3 x4 x19 x20 x21 x22 x23 x24 x25 x26 x27 x28 x29 x30 : AV) (h : Heap) :
    opsK C0 call md 14 (O14 1) (((O14 1).toList.drop 12).take 2) (st 96 [(0, x0), (1, x1), (2, x2), (3, x3), (4, x4), (19, x19), (20, x20), (21, x21), (22, x22), (23, x23), (24, x24), (25, x25), (26, x26), (27, x27), (28, x28), (29, x29), (30, x30)]) h kk =
    onG false x30 (
      bnd (aBinC tab .lss 3 x1 (.int .i64 0) true) fun v4 =>
      kk (st 96 [(0, x0), (1, x1), (2, x2), (3, x3), (4, x4), (19, x19), (20, x20), (21, x21), (22, x22), (23, x23), (24, x24), (25, x25), (26, x26), (27, x27), (28, x28), (29, x29), (30, x30), (31, x1), (32, v4)]) h) (
      kk (st 96 [(0, x0), (1, x1), (2, x2), (3, x3), (4, x4), (19, x19), (20, x20), (21, x21), (22, x22), (23, x23), (24, x24), (25, x25), (26, x26), (27, x27), (28, x28), (29, x29), (30, x30), (31, .skip), (32, .skip)]) h)
  := by cases x30 with | bool b => (cases b <;> kernel_rfl) | _ => kernel_rfl
theorem j14_1_5 {β : Type} (call : CallF) (md : Bool) (k : Ex → List AV → Heap → Option β) (x0 x1 x2 x3 x4 x19 x20 x21 x22 x23 x24 x25 x26 x27 x28 x29 x30 : AV) (h : Heap) :
    opsK C0 call md 14 (O14 1) ((O14 1).toList.drop 12) (st 96 [(0, x0), (1, x1), (2, x2), (3, x3), (4, x4), (19, x19), (20, x20), (21, x21), (22, x22), (23, x23), (24, x24), (25, x25), (26, x26), (27, x27), (28, x28), (29, x29), (30, x30)]) h (fun tm h => k .normal (clr (C0.keep 14 1) tm) h) = J14_1_5 call md k x0 x1 x2 x3 x4 x30 h := by
  have e : ((O14 1).toList.drop 12) = ((O14 1).toList.drop 12).take 2 ++ (O14 1).toList.drop 14 := by kernel_rfl
  rw [show opsK C0 call md 14 (O14 1) ((O14 1).toList.drop 12) = opsK C0 call md 14 (O14 1) (((O14 1).toList.drop 12).take 2 ++ (O14 1).toList.drop 14) from congrArg _ e]
  rw [opsK_append, g14_1_5]
  simp only [j14_1_6]
  rfl
def J14_1_4 {β : Type} (call : CallF) (md : Bool) (k : Ex → List AV → Heap → Option β) (x0 x1 x2 x3 x4 x26 x28 : AV) (h : Heap) : Option β :=
    bnd (aPick x26 (.bool true) x28) fun v5 =>
    J14_1_5 call md k x0 x1 x2 x3 x4 v5 h

theorem g14_1_4 {β : Type} (call : CallF) (md : Bool) (kk : List AV → Heap → Option β) (x0 x1 x2 x3 x4 x19 x20 x21 x22 x23 x24 x25 x26 x27 x28 : AV) (h : Heap) :
    opsK C0 call md 14 (O14 1) (((O14 1).toList.drop 10).take 2) (st 96 [(0, x0), (1, x1), (2, x2), (3, x3), (4, x4), (19, x19), (20, x20), (21, x21), (22, x22), (23, x23), (24, x24), (25, x25), (26, x26), (27, x27), (28, x28)]) h kk =
    bnd (aPick x26 (.bool true) x28) fun v6 =>
    kk (st 96 [(0, x0), (1, x1), (2, x2), (3, x3), (4, x4), (19, x19), (20, x20), (21, x21), (22, x22), (23, x23), (24, x24), (25, x25), (26, x26), (27, x27), (28, x28), (29, v6), (30, v6)]) h
  := by kernel_rfl
theorem j14_1_4 {β : Type} (call : CallF) (md : Bool) (k : Ex → List AV → Heap → Option β) (x0 x1 x2 x3 x4 x19 x20 x21 x22 x23 x24 x25 x26 x27 x28 : AV) (h : Heap) :
    opsK C0 call md 14 (O14 1) ((O14 1).toList.drop 10) (st 96 [(0, x0), (1, x1), (2, x2), (3, x3), (4, x4), (19, x19), (20, x20), (21, x21), (22, x22), (23, x23), (24, x24), (25, x25), (26, x26), (27, x27), (28, x28)]) h (fun tm h => k .normal (clr (C0.keep 14 1) tm) h) = J14_1_4 call md k x0 x1 x2 x3 x4 x26 x28 h := by
  have e : ((O14 1).toList.drop 10) = ((O14 1).toList.drop 10).take 2 ++ (O14 1).toList.drop 12 := by kernel_rfl
  rw [show opsK C0 call md 14 (O14 1) ((O14 1).toList.drop 10) = opsK C0 call md 14 (O14 1) (((O14 1).toList.drop 10).take 2 ++ (O14 1).toList.drop 12) from congrArg _ e]
  rw [opsK_append, g14_1_4]
  simp only [j14_1_5]
  rfl
def J14_1_3 {β : Type} (call : CallF) (md : Bool) (k : Ex → List AV → Heap → Option β) (x0 x1 x2 x3 x4 x26 : AV) (h : Heap) : Option β :=
    onG false x26 (
      bnd (aBinC tab .gtr 3 x3 (.int .i64 2147483647) true) fun v7 =>
      J14_1_4 call md k x0 x1 x2 x3 x4 x26 v7 h) (
      J14_1_4 call md k x0 x1 x2 x3 x4 x26 .skip h)

theorem g14_1_3 {β : Type} (call : CallF) (md : Bool) (kk : List AV → Heap → Option β) (x0 x1 x2 x3 x4 x19 x20 x21 x22 x23 x24 x25 x26 : AV) (h : Heap) :
    opsK C0 call md 14 (O14 1) (((O14 1).toList.drop 8).take 2) (st 96 [(0, x0), (1, x1), (2, x2), (3, x3), (4, x4), (19, x19), (20, x20), (21, x21), (22, x22), (23, x23), (24, x24), (25, x25), (26, x26)]) h kk =
    onG false x26 (
      bnd (aBinC tab .gtr 3 x3 (.int .i64 2147483647) true) fun v8 =>
      kk (st 96 [(0, x0), (1, x1), (2, x2), (3, x3), (4, x4), (19, x19), (20, x20), (21, x21), (22, x22), (23, x23), (24, x24), (25, x25), (26, x26), (27, x3), (28, v8)]) h) (
      kk (st 96 [(0, x0), (1, x1), (2, x2), (3, x3), (4, x4), (19, x19), (20, x20), (21, x21), (22, x22), (23, x23), (24, x24), (25, x25), (26, x26), (27, .skip), (28, .skip)]) h)
  := by cases x26 with | bool b => (cases b <;> kernel_rfl) | _ => kernel_rfl
theorem j14_1_3 {β : Type} (call : CallF) (md : Bool) (k : Ex → List AV → Heap → Option β) (x0 x1 x2 x3 x4 x19 x20 x21 x22 x23 x24 x25 x26 : AV) (h : Heap) :
    opsK C0 call md 14 (O14 1) ((O14 1).toList.drop 8) (st 96 [(0, x0), (1, x1), (2, x2), (3, x3), (4, x4), (19, x19), (20, x20), (21, x21), (22, x22), (23, x23), (24, x24), (25, x25), (26, x26)]) h (fun tm h => k .normal (clr (C0.keep 14 1) tm) h) = J14_1_3 call md k x0 x1 x2 x3 x4 x26 h := by
  have e : ((O14 1).toList.drop 8) = ((O14 1).toList.drop 8).take 2 ++ (O14 1).toList.drop 10 := by kernel_rfl
  rw [show opsK C0 call md 14 (O14 1) ((O14 1).toList.drop 8) = opsK C0 call md 14 (O14 1) (((O14 1).toList.drop 8).take 2 ++ (O14 1).toList.drop 10) from congrArg _ e]
  rw [opsK_append, g14_1_3]
  simp only [j14_1_4]
  rfl
def J14_1_2 {β : Type} (call : CallF) (md : Bool) (k : Ex → List AV → Heap → Option β) (x0 x1 x2 x3 x4 x22 x24 : AV) (h : Heap) : Option β :=
    bnd (aPick x22 (.bool true) x24) fun v9 =>
    J14_1_3 call md k x0 x1 x2 x3 x4 v9 h

theorem g14_1_2 {β : Type} (call : CallF) (md : Bool) (kk : List AV → Heap → Option β) (x0 x1 x2 x3 x4 x19 x20 x21 x22 x23 x24 : AV) (h : Heap) :
    opsK C0 call md 14 (O14 1) (((O14 1).toList.drop 6).take 2) (st 96 [(0, x0), (1, x1), (2, x2), (3, x3), (4, x4), (19, x19), (20, x20), (21, x21), (22, x22), (23, x23), (24, x24)]) h kk =
    bnd (aPick x22 (.bool true) x24) fun v10 =>
    kk (st 96 [(0, x0), (1, x1), (2, x2), (3, x3), (4, x4), (19, x19), (20, x20), (21, x21), (22, x22), (23, x23), (24, x24), (25, v10), (26, v10)]) h
  := by kernel_rfl
theorem j14_1_2 {β : Type} (call : CallF) (md : Bool) (k : Ex → List AV → Heap → Option β) (x0 x1 x2 x3 x4 x19 x20 x21 x22 x23 x24 : AV) (h : Heap) :
    opsK C0 call md 14 (O14 1) ((O14 1).toList.drop 6) (st 96 [(0, x0), (1, x1), (2, x2), (3, x3), (4, x4), (19, x19), (20, x20), (21, x21), (22, x22), (23, x23), (24, x24)]) h (fun tm h => k .normal (clr (C0.keep 14 1) tm) h) = J14_1_2 call md k x0 x1 x2 x3 x4 x22 x24 h := by
  have e : ((O14 1).toList.drop 6) = ((O14 1).toList.drop 6).take 2 ++ (O14 1).toList.drop 8 := by kernel_rfl
  rw [show opsK C0 call md 14 (O14 1) ((O14 1).toList.drop 6) = opsK C0 call md 14 (O14 1) (((O14 1).toList.drop 6).take 2 ++ (O14 1).toList.drop 8) from congrArg _ e]
  rw [opsK_append, g14_1_2]
  simp only [j14_1_3]
  rfl
def J14_1_1 {β : Type} (call : CallF) (md : Bool) (k : Ex → List AV → Heap → Option β) (x0 x1 x2 x3 x4 x22 : AV) (h : Heap) : Option β :=
    onG false x22 (
      bnd (aBinC tab .lss 3 x3 (.int .i64 0) true) fun v11 =>
      J14_1_2 call md k x0 x1 x2 x3 x4 x22 v11 h) (
      J14_1_2 call md k x0 x1 x2 x3 x4 x22 .skip h)

theorem g14_1_1 {β : Type} (call : CallF) (md : Bool) (kk : List AV → Heap → Option β) (x0 x1 x2 x3 x4 x19 x20 x21 x22 : AV) (h : Heap) :
    opsK C0 call md 14 (O14 1) (((O14 1).toList.drop 4).take 2) (st 96 [(0, x0), (1, x1), (2, x2), (3, x3), (4, x4), (19, x19), (20, x20), (21, x21), (22, x22)]) h kk =
    onG false x22 (
      bnd (aBinC tab .lss 3 x3 (.int .i64 0) true) fun v12 =>
      kk (st 96 [(0, x0), (1, x1), (2, x2), (3, x3), (4, x4), (19, x19), (20, x20), (21, x21), (22, x22), (23, x3), (24, v12)]) h) (
      kk (st 96 [(0, x0), (1, x1), (2, x2), (3, x3), (4, x4), (19, x19), (20, x20), (21, x21), (22, x22), (23, .skip), (24, .skip)]) h)
  := by cases x22 with | bool b => (cases b <;> kernel_rfl) | _ => kernel_rfl
theorem j14_1_1 {β : Type} (call : CallF) (md : Bool) (k : Ex → List AV → Heap → Option β) (x0 x1 x2 x3 x4 x19 x20 x21 x22 : AV) (h : Heap) :
    opsK C0 call md 14 (O14 1) ((O14 1).toList.drop 4) (st 96 [(0, x0), (1, x1), (2, x2), (3, x3), (4, x4), (19, x19), (20, x20), (21, x21), (22, x22)]) h (fun tm h => k .normal (clr (C0.keep 14 1) tm) h) = J14_1_1 call md k x0 x1 x2 x3 x4 x22 h := by
  have e : ((O14 1).toList.drop 4) = ((O14 1).toList.drop 4).take 2 ++ (O14 1).toList.drop 6 := by kernel_rfl
  rw [show opsK C0 call md 14 (O14 1) ((O14 1).toList.drop 4) = opsK C0 call md 14 (O14 1) (((O14 1).toList.drop 4).take 2 ++ (O14 1).toList.drop 6) from congrArg _ e]
  rw [opsK_append, g14_1_1]
  simp only [j14_1_2]
  rfl
def J14_1_0 {β : Type} (call : CallF) (md : Bool) (k : Ex → List AV → Heap → Option β) (x0 x1 x2 x3 x4 : AV) (h : Heap) : Option β :=
    bnd (aLen tab 22 x4) fun v13 =>
    bnd (aBinC tab .gtr 3 v13 (.int .i64 8192) true) fun v14 =>
    J14_1_1 call md k x0 x1 x2 x3 x4 v14 h

theorem g14_1_0 {β : Type} (call : CallF) (md : Bool) (kk : List AV → Heap → Option β) (x0 x1 x2 x3 x4 : AV) (h : Heap) :
    opsK C0 call md 14 (O14 1) ((O14 1).toList.take 4) (st 96 [(0, x0), (1, x1), (2, x2), (3, x3), (4, x4)]) h kk =
    bnd (aLen tab 22 x4) fun v15 =>
    bnd (aBinC tab .gtr 3 v15 (.int .i64 8192) true) fun v16 =>
    kk (st 96 [(0, x0), (1, x1), (2, x2), (3, x3), (4, x4), (19, x4), (20, v15), (21, v16), (22, v16)]) h
  := by kernel_rfl
theorem j14_1_0 {β : Type} (call : CallF) (md : Bool) (k : Ex → List AV → Heap → Option β) (x0 x1 x2 x3 x4 : AV) (h : Heap) :
    opsK C0 call md 14 (O14 1) (O14 1).toList (st 96 [(0, x0), (1, x1), (2, x2), (3, x3), (4, x4)]) h (fun tm h => k .normal (clr (C0.keep 14 1) tm) h) = J14_1_0 call md k x0 x1 x2 x3 x4 h := by
  have e : (O14 1).toList = (O14 1).toList.take 4 ++ (O14 1).toList.drop 4 := by kernel_rfl
  rw [show opsK C0 call md 14 (O14 1) (O14 1).toList = opsK C0 call md 14 (O14 1) ((O14 1).toList.take 4 ++ (O14 1).toList.drop 4) from congrArg _ e]
  rw [opsK_append, g14_1_0]
  simp only [j14_1_1]
  rfl
theorem r14_1 {β : Type} (call : CallF) (md : Bool) (n : Nat) (k : Ex → List AV → Heap → Option β) (x0 x1 x2 x3 x4 : AV) (h : Heap) :
    runK C0 call md 14 n (.region 1 (O14 1) false) k (st 96 [(0, x0), (1, x1), (2, x2), (3, x3), (4, x4)]) h = J14_1_0 call md k x0 x1 x2 x3 x4 h := (runK_region C0 call md 14 n 1 (O14 1) k (st 96 [(0, x0), (1, x1), (2, x2), (3, x3), (4, x4)]) h).trans (j14_1_0 call md k x0 x1 x2 x3 x4 h)
theorem r14_2 {β : Type} (call : CallF) (md : Bool) (n : Nat) (k : Ex → List AV → Heap → Option β) (x0 x1 x2 x3 x4 x33 : AV) (h : Heap) :
    runK C0 call md 14 n (.region 2 (O14 2) false) k (st 96 [(0, x0), (1, x1), (2, x2), (3, x3), (4, x4), (33, x33)]) h =
    k .normal (st 96 [(10, (.int .i64 0)), (11, (.int .i64 1))]) h
  := by kernel_rfl
theorem r14_3 {β : Type} (call : CallF) (md : Bool) (n : Nat) (k : Ex → List AV → Heap → Option β) (x0 x1 x2 x3 x4 x33 : AV) (h : Heap) :
    runK C0 call md 14 n (.region 3 (O14 3) false) k (st 96 [(0, x0), (1, x1), (2, x2), (3, x3), (4, x4), (33, x33)]) h =
    bnd (aLen tab 22 x4) fun v1 =>
    bnd2 (aCall call md (.fn (.func 45) []) [v1] h) fun v2 h3 =>
    k .normal (st 96 [(0, x0), (1, x1), (2, x2), (3, x3), (4, x4), (12, v2)]) h3
  := by kernel_rfl
def J14_4_2 {β : Type} (call : CallF) (md : Bool) (k : Ex → List AV → Heap → Option β) (x0 x1 x3 x4 x12 x40 x48 : AV) (h : Heap) : Option β :=
    bnd (aPick x40 (.bool true) x48) fun v1 =>
    k .normal (st 96 [(0, x0), (1, x1), (3, x3), (4, x4), (12, x12), (49, v1)]) h

theorem j14_4_2 {β : Type} (call : CallF) (md : Bool) (k : Ex → List AV → Heap → Option β) (x0 x1 x2 x3 x4 x12 x37 x38 x39 x40 x41 x42 x43 x44 x45 x46 x47 x48 : AV) (h : Heap) :
    opsK C0 call md 14 (O14 4) ((O14 4).toList.drop 12) (st 96 [(0, x0), (1, x1), (2, x2), (3, x3), (4, x4), (12, x12), (37, x37), (38, x38), (39, x39), (40, x40), (41, x41), (42, x42), (43, x43), (44, x44), (45, x45), (46, x46), (47, x47), (48, x48)]) h (fun tm h => k .normal (clr (C0.keep 14 4) tm) h) = J14_4_2 call md k x0 x1 x3 x4 x12 x40 x48 h := by kernel_rfl
def J14_4_1 {β : Type} (call : CallF) (md : Bool) (k : Ex → List AV → Heap → Option β) (x0 x1 x2 x3 x4 x12 x40 : AV) (h : Heap) : Option β :=
    onG false x40 (
      bnd2 (aCall call md (.fn (.func 46) []) [x0] h) fun v3 h4 =>
      bnd (aMin [x2, v3]) fun v5 =>
      bnd (aBinC tab .sub 3 v5 x1 false) fun v6 =>
      bnd (aBinC tab .gtr 3 x12 v6 false) fun v7 =>
      J14_4_2 call md k x0 x1 x3 x4 x12 x40 v7 h4) (
      J14_4_2 call md k x0 x1 x3 x4 x12 x40 .skip h)

theorem g14_4_1 {β : Type} (call : CallF) (md : Bool) (kk : List AV → Heap → Option β) (x0 x1 x2 x3 x4 x12 x37 x38 x39 x40 : AV) (h : Heap) :
    opsK C0 call md 14 (O14 4) (((O14 4).toList.drop 4).take 8) (st 96 [(0, x0), (1, x1), (2, x2), (3, x3), (4, x4), (12, x12), (37, x37), (38, x38), (39, x39), (40, x40)]) h kk =
    onG false x40 (
      bnd2 (aCall call md (.fn (.func 46) []) [x0] h) fun v8 h9 =>
      bnd (aMin [x2, v8]) fun v10 =>
      bnd (aBinC tab .sub 3 v10 x1 false) fun v11 =>
      bnd (aBinC tab .gtr 3 x12 v11 false) fun v12 =>
      kk (st 96 [(0, x0), (1, x1), (2, x2), (3, x3), (4, x4), (12, x12), (37, x37), (38, x38), (39, x39), (40, x40), (41, x12), (42, x2), (43, x0), (44, v8), (45, v10), (46, x1), (47, v11), (48, v12)]) h9) (
      kk (st 96 [(0, x0), (1, x1), (2, x2), (3, x3), (4, x4), (12, x12), (37, x37), (38, x38), (39, x39), (40, x40), (41, .skip), (42, .skip), (43, .skip), (44, .skip), (45, .skip), (46, .skip), (47, .skip), (48, .skip)]) h)
  := by cases x40 with | bool b => (cases b <;> kernel_rfl) | _ => kernel_rfl
theorem j14_4_1 {β : Type} (call : CallF) (md : Bool) (k : Ex → List AV → Heap → Option β) (x0 x1 x2 x3 x4 x12 x37 x38 x39 x40 : AV) (h : Heap) :
    opsK C0 call md 14 (O14 4) ((O14 4).toList.drop 4) (st 96 [(0, x0), (1, x1), (2, x2), (3, x3), (4, x4), (12, x12), (37, x37), (38, x38), (39, x39), (40, x40)]) h (fun tm h => k .normal (clr (C0.keep 14 4) tm) h) = J14_4_1 call md k x0 x1 x2 x3 x4 x12 x40 h := by
  have e : ((O14 4).toList.drop 4) = ((O14 4).toList.drop 4).take 8 ++ (O14 4).toList.drop 12 := by kernel_rfl
  rw [show opsK C0 call md 14 (O14 4) ((O14 4).toList.drop 4) = opsK C0 call md 14 (O14 4) (((O14 4).toList.drop 4).take 8 ++ (O14 4).toList.drop 12) from congrArg _ e]
  rw [opsK_append, g14_4_1]
  simp only [j14_4_2]
  rfl
def J14_4_0 {β : Type} (call : CallF) (md : Bool) (k : Ex → List AV → Heap → Option β) (x0 x1 x2 x3 x4 x12 : AV) (h : Heap) : Option β :=
    bnd (aBinC tab .lss 3 x2 x1 false) fun v13 =>
    J14_4_1 call md k x0 x1 x2 x3 x4 x12 v13 h

theorem g14_4_0 {β : Type} (call : CallF) (md : Bool) (kk : List AV → Heap → Option β) (x0 x1 x2 x3 x4 x12 : AV) (h : Heap) :
    opsK C0 call md 14 (O14 4) ((O14 4).toList.take 4) (st 96 [(0, x0), (1, x1), (2, x2), (3, x3), (4, x4), (12, x12)]) h kk =
    bnd (aBinC tab .lss 3 x2 x1 false) fun v14 =>
    kk (st 96 [(0, x0), (1, x1), (2, x2), (3, x3), (4, x4), (12, x12), (37, x2), (38, x1), (39, v14), (40, v14)]) h
  := by kernel_rfl
theorem j14_4_0 {β : Type} (call : CallF) (md : Bool) (k : Ex → List AV → Heap → Option β) (x0 x1 x2 x3 x4 x12 : AV) (h : Heap) :
    opsK C0 call md 14 (O14 4) (O14 4).toList (st 96 [(0, x0), (1, x1), (2, x2), (3, x3), (4, x4), (12, x12)]) h (fun tm h => k .normal (clr (C0.keep 14 4) tm) h) = J14_4_0 call md k x0 x1 x2 x3 x4 x12 h := by
  have e : (O14 4).toList = (O14 4).toList.take 4 ++ (O14 4).toList.drop 4 := by kernel_rfl
  rw [show opsK C0 call md 14 (O14 4) (O14 4).toList = opsK C0 call md 14 (O14 4) ((O14 4).toList.take 4 ++ (O14 4).toList.drop 4) from congrArg _ e]
  rw [opsK_append, g14_4_0]
  simp only [j14_4_1]
  rfl
theorem r14_4 {β : Type} (call : CallF) (md : Bool) (n : Nat) (k : Ex → List AV → Heap → Option β) (x0 x1 x2 x3 x4 x12 : AV) (h : Heap) :
    runK C0 call md 14 n (.region 4 (O14 4) false) k (st 96 [(0, x0), (1, x1), (2, x2), (3, x3), (4, x4), (12, x12)]) h = J14_4_0 call md k x0 x1 x2 x3 x4 x12 h := (runK_region C0 call md 14 n 4 (O14 4) k (st 96 [(0, x0), (1, x1), (2, x2), (3, x3), (4, x4), (12, x12)]) h).trans (j14_4_0 call md k x0 x1 x2 x3 x4 x12 h)
theorem r14_5 {β : Type} (call : CallF) (md : Bool) (n : Nat) (k : Ex → List AV → Heap → Option β) (x0 x1 x3 x4 x12 x49 : AV) (h : Heap) :
    runK C0 call md 14 n (.region 5 (O14 5) false) k (st 96 [(0, x0), (1, x1), (3, x3), (4, x4), (12, x12), (49, x49)]) h =
    k .normal (st 96 [(10, (.int .i64 0)), (11, (.int .i64 3))]) h
  := by kernel_rfl
theorem r14_6 {β : Type} (call : CallF) (md : Bool) (n : Nat) (k : Ex → List AV → Heap → Option β) (x0 x1 x3 x4 x12 x49 : AV) (h : Heap) :
    runK C0 call md 14 n (.region 6 (O14 6) false) k (st 96 [(0, x0), (1, x1), (3, x3), (4, x4), (12, x12), (49, x49)]) h =
    k .normal (st 96 [(0, x0), (1, x1), (3, x3), (4, x4), (12, x12), (13, (.int .i64 1))]) h
  := by kernel_rfl
theorem r14_7 {β : Type} (call : CallF) (md : Bool) (n : Nat) (k : Ex → List AV → Heap → Option β) (x0 x1 x3 x4 x12 x13 : AV) (h : Heap) :
    runK C0 call md 14 n (.region 7 (O14 7) false) k (st 96 [(0, x0), (1, x1), (3, x3), (4, x4), (12, x12), (13, x13)]) h =
    bnd (aBinC tab .lss 3 x13 x12 false) fun v1 =>
    k .normal (st 96 [(0, x0), (1, x1), (3, x3), (4, x4), (12, x12), (13, x13), (52, v1)]) h
  := by kernel_rfl
theorem r14_8 {β : Type} (call : CallF) (md : Bool) (n : Nat) (k : Ex → List AV → Heap → Option β) (x0 x1 x3 x4 x12 x13 x15 x72 : AV) (h : Heap) :
    runK C0 call md 14 n (.region 8 (O14 8) false) k (st 96 [(0, x0), (1, x1), (3, x3), (4, x4), (12, x12), (13, x13), (15, x15), (72, x72)]) h =
    bnd (aBinC tab .add 3 x13 (.int .i64 1) true) fun v1 =>
    k .normal (st 96 [(0, x0), (1, x1), (3, x3), (4, x4), (12, x12), (13, v1)]) h
  := by kernel_rfl
theorem r14_9 {β : Type} (call : CallF) (md : Bool) (n : Nat) (k : Ex → List AV → Heap → Option β) (x0 x1 x3 x4 x12 x13 x52 : AV) (h : Heap) :
    runK C0 call md 14 n (.region 9 (O14 9) false) k (st 96 [(0, x0), (1, x1), (3, x3), (4, x4), (12, x12), (13, x13), (52, x52)]) h =
    bnd (aBinC tab .sub 3 x13 (.int .i64 1) true) fun v1 =>
    bnd (aBinC tab .mul 3 v1 (.int .i64 64) true) fun v2 =>
    bnd (aBinC tab .mul 3 x13 (.int .i64 64) true) fun v3 =>
    bnd (aLen tab 22 x4) fun v4 =>
    bnd (aMin [v3, v4]) fun v5 =>
    bnd (aSlice tab 22 x4 (some v2) (some v5) none) fun v6 =>
    k .normal (st 96 [(0, x0), (1, x1), (3, x3), (4, x4), (12, x12), (13, x13), (14, v6)]) h
  := by kernel_rfl
theorem r14_10 {β : Type} (call : CallF) (md : Bool) (n : Nat) (k : Ex → List AV → Heap → Option β) (x0 x1 x3 x4 x12 x13 x14 : AV) (h : Heap) :
    runK C0 call md 14 n (.region 10 (O14 10) false) k (st 96 [(0, x0), (1, x1), (3, x3), (4, x4), (12, x12), (13, x13), (14, x14)]) h =
    bnd (aBinC tab .add 3 x1 x13 false) fun v1 =>
    bnd2 (aCall call md (.fn (.func 17) []) [x0, v1, x14] h) fun v2 h3 =>
    k .normal (st 96 [(0, x0), (1, x1), (3, x3), (4, x4), (12, x12), (13, x13), (15, v2)]) h3
  := by kernel_rfl
theorem r14_11 {β : Type} (call : CallF) (md : Bool) (n : Nat) (k : Ex → List AV → Heap → Option β) (x0 x1 x3 x4 x12 x13 x15 : AV) (h : Heap) :
    runK C0 call md 14 n (.region 11 (O14 11) false) k (st 96 [(0, x0), (1, x1), (3, x3), (4, x4), (12, x12), (13, x13), (15, x15)]) h =
    bnd (aBinC tab .neq 27 x15 (.int .i64 0) true) fun v1 =>
    k .normal (st 96 [(0, x0), (1, x1), (3, x3), (4, x4), (12, x12), (13, x13), (15, x15), (72, v1)]) h
  := by kernel_rfl
theorem r14_12 {β : Type} (call : CallF) (md : Bool) (n : Nat) (k : Ex → List AV → Heap → Option β) (x0 x1 x3 x4 x12 x13 x15 x72 : AV) (h : Heap) :
    runK C0 call md 14 n (.region 12 (O14 12) false) k (st 96 [(0, x0), (1, x1), (3, x3), (4, x4), (12, x12), (13, x13), (15, x15), (72, x72)]) h =
    k .normal (st 96 [(10, (.int .i64 0)), (11, x15)]) h
  := by kernel_rfl
theorem r14_13 {β : Type} (call : CallF) (md : Bool) (n : Nat) (k : Ex → List AV → Heap → Option β) (x0 x1 x3 x4 x12 x13 x52 : AV) (h : Heap) :
    runK C0 call md 14 n (.region 13 (O14 13) false) k (st 96 [(0, x0), (1, x1), (3, x3), (4, x4), (12, x12), (13, x13), (52, x52)]) h =
    bnd2 (aCall call md (.fn (.func 18) []) [x0] h) fun v1 h2 =>
    k .normal (st 96 [(0, x0), (1, x1), (3, x3), (4, x4), (12, x12), (16, v1)]) h2
  := by kernel_rfl
theorem r14_14 {β : Type} (call : CallF) (md : Bool) (n : Nat) (k : Ex → List AV → Heap → Option β) (x0 x1 x3 x4 x12 x16 : AV) (h : Heap) :
    runK C0 call md 14 n (.region 14 (O14 14) false) k (st 96 [(0, x0), (1, x1), (3, x3), (4, x4), (12, x12), (16, x16)]) h =
    bnd (aBinC tab .neq 27 x16 (.int .i64 0) true) fun v1 =>
    k .normal (st 96 [(0, x0), (1, x1), (3, x3), (4, x4), (12, x12), (16, x16), (77, v1)]) h
  := by kernel_rfl
theorem r14_15 {β : Type} (call : CallF) (md : Bool) (n : Nat) (k : Ex → List AV → Heap → Option β) (x0 x1 x3 x4 x12 x16 x77 : AV) (h : Heap) :
    runK C0 call md 14 n (.region 15 (O14 15) false) k (st 96 [(0, x0), (1, x1), (3, x3), (4, x4), (12, x12), (16, x16), (77, x77)]) h =
    k .normal (st 96 [(10, (.int .i64 0)), (11, x16)]) h
  := by kernel_rfl
theorem r14_16 {β : Type} (call : CallF) (md : Bool) (n : Nat) (k : Ex → List AV → Heap → Option β) (x0 x1 x3 x4 x12 x16 x77 : AV) (h : Heap) :
    runK C0 call md 14 n (.region 16 (O14 16) false) k (st 96 [(0, x0), (1, x1), (3, x3), (4, x4), (12, x12), (16, x16), (77, x77)]) h =
    bnd2 (aCall call md (.fn (.func 47) []) [x3, x4] h) fun v1 h2 =>
    bnd2 (aCall call md (.fn (.func 17) []) [x0, x1, v1] h2) fun v3 h4 =>
    k .normal (st 96 [(0, x0), (1, x1), (12, x12), (17, v3)]) h4
  := by kernel_rfl
theorem r14_17 {β : Type} (call : CallF) (md : Bool) (n : Nat) (k : Ex → List AV → Heap → Option β) (x0 x1 x12 x17 : AV) (h : Heap) :
    runK C0 call md 14 n (.region 17 (O14 17) false) k (st 96 [(0, x0), (1, x1), (12, x12), (17, x17)]) h =
    bnd (aBinC tab .neq 27 x17 (.int .i64 0) true) fun v1 =>
    k .normal (st 96 [(0, x0), (1, x1), (12, x12), (17, x17), (86, v1)]) h
  := by kernel_rfl
theorem r14_18 {β : Type} (call : CallF) (md : Bool) (n : Nat) (k : Ex → List AV → Heap → Option β) (x0 x1 x12 x17 x86 : AV) (h : Heap) :
    runK C0 call md 14 n (.region 18 (O14 18) false) k (st 96 [(0, x0), (1, x1), (12, x12), (17, x17), (86, x86)]) h =
    k .normal (st 96 [(10, (.int .i64 0)), (11, x17)]) h
  := by kernel_rfl
theorem r14_19 {β : Type} (call : CallF) (md : Bool) (n : Nat) (k : Ex → List AV → Heap → Option β) (x0 x1 x12 x17 x86 : AV) (h : Heap) :
    runK C0 call md 14 n (.region 19 (O14 19) false) k (st 96 [(0, x0), (1, x1), (12, x12), (17, x17), (86, x86)]) h =
    bnd2 (aCall call md (.fn (.func 18) []) [x0] h) fun v1 h2 =>
    k .normal (st 96 [(1, x1), (12, x12), (18, v1)]) h2
  := by kernel_rfl
theorem r14_20 {β : Type} (call : CallF) (md : Bool) (n : Nat) (k : Ex → List AV → Heap → Option β) (x1 x12 x18 : AV) (h : Heap) :
    runK C0 call md 14 n (.region 20 (O14 20) false) k (st 96 [(1, x1), (12, x12), (18, x18)]) h =
    bnd (aBinC tab .neq 27 x18 (.int .i64 0) true) fun v1 =>
    k .normal (st 96 [(1, x1), (12, x12), (18, x18), (91, v1)]) h
  := by kernel_rfl
theorem r14_21 {β : Type} (call : CallF) (md : Bool) (n : Nat) (k : Ex → List AV → Heap → Option β) (x1 x12 x18 x91 : AV) (h : Heap) :
    runK C0 call md 14 n (.region 21 (O14 21) false) k (st 96 [(1, x1), (12, x12), (18, x18), (91, x91)]) h =
    k .normal (st 96 [(10, (.int .i64 0)), (11, x18)]) h
  := by kernel_rfl
theorem r14_22 {β : Type} (call : CallF) (md : Bool) (n : Nat) (k : Ex → List AV → Heap → Option β) (x1 x12 x18 x91 : AV) (h : Heap) :
    runK C0 call md 14 n (.region 22 (O14 22) false) k (st 96 [(1, x1), (12, x12), (18, x18), (91, x91)]) h =
    bnd (aBinC tab .add 3 x1 x12 false) fun v1 =>
    k .normal (st 96 [(10, v1), (11, (.int .i64 0))]) h
  := by kernel_rfl
end Go.Ax

/- region.Lay: an entry is written. -/
namespace Go.Ax
open Go Go.Proofs

theorem burn_fuse (d : Dk) : d.burn.fuse ≤ d.fuse := by unfold Dk.burn; simp only; split <;> omega
theorem write_fuse (d : Dk) (a : Int) (b : List UInt8) : (d.write a b).2.fuse ≤ d.fuse := by
  unfold Dk.write
  split
  · exact Int.le_refl _
  · split
    · exact burn_fuse d
    · exact burn_fuse d
theorem write_loose (d : Dk) (a : Int) (b : List UInt8) : (d.write a b).2.loose.length ≤ d.loose.length + 1 := by
  unfold Dk.write
  split
  · simp
  · split
    · simp [Dk.burn]
    · simp [Dk.burn, Dk.add]
theorem write_len (d : Dk) (a : Int) (b : List UInt8) : (d.write a b).2.lasts.length = d.lasts.length := by
  unfold Dk.write
  split
  · rfl
  · split <;> rfl
theorem flush_fuse (d : Dk) : d.flush.2.fuse ≤ d.fuse := by
  unfold Dk.flush
  split
  · exact burn_fuse d
  · exact burn_fuse d
theorem flush_loose (d : Dk) : d.flush.2.loose.length ≤ d.loose.length := by
  unfold Dk.flush
  split
  · exact Nat.le_refl _
  · simp
theorem flush_len (d : Dk) : d.flush.2.lasts.length = d.lasts.length := by
  unfold Dk.flush
  split
  · rfl
  · exact land_length _ _

/-- The part of an entry that lies in its i-th sector. -/
def chunk (b : List UInt8) (i : Nat) : List UInt8 := (b.drop (64 * (i - 1))).take 64

def layLoop (at' : Int) (b : List UInt8) : Nat → Nat → Dk → Int × Dk
  | 0, _, d => (0, d)
  | m + 1, i, d => if (d.write (at' + i) (chunk b i)).1 = 0 then layLoop at' b m (i + 1) (d.write (at' + i) (chunk b i)).2 else d.write (at' + i) (chunk b i)

theorem layLoop_zero (at' : Int) (b : List UInt8) (i : Nat) (d : Dk) : layLoop at' b 0 i d = (0, d) := rfl
theorem layLoop_go {at' : Int} {b : List UInt8} {m i : Nat} {d : Dk} (h : (d.write (at' + i) (chunk b i)).1 = 0) : layLoop at' b (m + 1) i d = layLoop at' b m (i + 1) (d.write (at' + i) (chunk b i)).2 := if_pos h
theorem layLoop_no {at' : Int} {b : List UInt8} {m i : Nat} {d : Dk} (h : (d.write (at' + i) (chunk b i)).1 ≠ 0) : layLoop at' b (m + 1) i d = d.write (at' + i) (chunk b i) := if_neg h

theorem layLoop_loose (at' : Int) (b : List UInt8) : ∀ m i d, (layLoop at' b m i d).2.loose.length ≤ d.loose.length + m := by
  intro m
  induction m with
  | zero => intro i d; simp [layLoop]
  | succ m ih =>
    intro i d
    have := write_loose d (at' + i) (chunk b i)
    by_cases h : (d.write (at' + i) (chunk b i)).1 = 0
    · rw [layLoop_go h]
      have := ih (i + 1) (d.write (at' + i) (chunk b i)).2
      omega
    · rw [layLoop_no h]; omega
theorem layLoop_fuse (at' : Int) (b : List UInt8) : ∀ m i d, (layLoop at' b m i d).2.fuse ≤ d.fuse := by
  intro m
  induction m with
  | zero => intro i d; simp [layLoop]
  | succ m ih =>
    intro i d
    have := write_fuse d (at' + i) (chunk b i)
    by_cases h : (d.write (at' + i) (chunk b i)).1 = 0
    · rw [layLoop_go h]
      have := ih (i + 1) (d.write (at' + i) (chunk b i)).2
      omega
    · rw [layLoop_no h]; omega

theorem Bs.sub {x : AV} {l : List UInt8} (hx : Bs x l) (lo hi : Nat) (h1 : lo ≤ hi) (h2 : hi ≤ l.length) : ∃ y, aSlice tab 22 x (some (.int .i64 lo)) (some (.int .i64 hi)) none = some y ∧ Bs y ((l.take hi).drop lo) := by
  rcases hx with ⟨rfl, rfl⟩ | ⟨k, rfl⟩
  · obtain rfl : hi = 0 := by simpa using h2
    obtain rfl : lo = 0 := by omega
    exact ⟨.nils, by simp [aSlice, aBounds, aBound], .inl ⟨rfl, by simp⟩⟩
  · refine ⟨.vsl 5 (((l.take hi).drop lo).map U8) (cutTok l.length hi none k), ?_, .inr ⟨_, rfl⟩⟩
    simp [aSlice, aBounds, aBound, h1, h2]

theorem chunk_eq (b : List UInt8) (i : Nat) (hi : 1 ≤ i) : (b.take (min (64 * i) b.length)).drop (64 * (i - 1)) = chunk b i := by
  unfold chunk
  rw [List.drop_take]
  rcases Nat.le_total (64 * i) b.length with h | h
  · rw [Nat.min_eq_left h, show 64 * i - 64 * (i - 1) = 64 by omega]
  · rw [Nat.min_eq_right h, List.take_of_length_le (by simp), List.take_of_length_le (by simp; omega)]

theorem lay_loop {S : Obs} {p r : Nat} {x : AV} {b : List UInt8} (hx : Bs x b) (a nn : Nat) (x3 : AV) (N : Nat) (ha : a + nn ≤ 1024) (hnn : 64 * (nn - 1) < b.length + 64) :
    ∀ (m i n : Nat) (d : Dk) (h : Heap), i + m = nn → 1 ≤ i → m < n → Up S h → Dsk S h p r d → d.loose.length + m < 2 ^ 30 → d.fuse < 2 ^ 63 →
    ∃ h', (∀ K : Ex → List AV → Heap → Option (AV × Heap), loopK (fun next => runK C0 (exFn C0 E0 (N + 3)) false 14 (N + 3) B14_1 (seqE next K)) n (st 96 [(0, dp p), (1, .int .i64 a), (3, x3), (4, x), (12, .int .i64 nn), (13, .int .i64 i)]) h =
      if (layLoop a b m i d).1 = 0 then K (.exit 0) (st 96 [(0, dp p), (1, .int .i64 a), (3, x3), (4, x), (12, .int .i64 nn), (13, .int .i64 nn), (52, .bool false)]) h'
      else K .ret (st 96 [(10, .int .i64 0), (11, .int .i64 (layLoop a b m i d).1)]) h') ∧
      Dsk S h' p r (layLoop a b m i d).2 ∧ Keep S h h' := by
  intro m
  induction m with
  | zero =>
    intro i n d h hi h1 hn up D hl hf
    obtain ⟨n, rfl⟩ : ∃ j, n = j + 1 := ⟨n - 1, by omega⟩
    obtain rfl : i = nn := by omega
    rw [layLoop_zero]
    refine ⟨h, fun K => ?_, D, Keep.refl _ _⟩
    rw [if_pos rfl, loopK_succ]
    generalize loopK (_ : (List AV → Heap → Option (AV × Heap)) → List AV → Heap → Option (AV × Heap)) n = Lp
    have e : decide (((i : Nat) : Int) < (i : Nat)) = false := decide_eq_false (by omega)
    simp -implicitDefEqProofs only [B14_1, ↓runK_seq, runK_seq, ↓runK_cond, runK_cond, ↓runK_block, runK_block, ↓runK_loop, runK_loop, ↓runK_skip, runK_skip, ↓runK_ret, runK_ret, ↓runK_exit, runK_exit, ↓seqE_n, seqE_n, ↓seqE_e, seqE_e, ↓seqE_r, seqE_r, ↓blkE_n, blkE_n, ↓blkE_e, blkE_e, ↓blkE_r, blkE_r, ↓retK_n, retK_n, ↓retK_r, retK_r, ↓aCall_fn, aCall_fn, ↓bnd_s, bnd_s, ↓bnd2_s, bnd2_s, ↓onB_t, onB_t, ↓onB_f, onB_f, ↓onG_tt, onG_tt, ↓onG_tf, onG_tf, ↓onG_ft, onG_ft, ↓onG_ff, onG_ff, ↓onG_s, onG_s, ↓onT_t, onT_t, ↓aPick_t, aPick_t, ↓aPick_f, aPick_f, decide_true, decide_false, st_tmp, results1, results2, List.lookup_cons, List.lookup_nil, Nat.reduceBEq, Bool.false_eq_true, ↓reduceIte, BEq.rfl, Nat.reduceLT, Option.getD_some, Option.getD_none, ↓r14_0, r14_0, ↓r14_1, r14_1, J14_1_0, J14_1_1, J14_1_2, J14_1_3, J14_1_4, J14_1_5, J14_1_6, ↓r14_2, r14_2, ↓r14_3, r14_3, ↓r14_4, r14_4, J14_4_0, J14_4_1, J14_4_2, ↓r14_5, r14_5, ↓r14_6, r14_6, ↓r14_7, r14_7, ↓r14_8, r14_8, ↓r14_9, r14_9, ↓r14_10, r14_10, ↓r14_11, r14_11, ↓r14_12, r14_12, ↓r14_13, r14_13, ↓r14_14, r14_14, ↓r14_15, r14_15, ↓r14_16, r14_16, ↓r14_17, r14_17, ↓r14_18, r14_18, ↓r14_19, r14_19, ↓r14_20, r14_20, ↓r14_21, r14_21, ↓r14_22, r14_22, bin_lss, e]
  | succ m ih =>
    intro i n d h hi h1 hn up D hl hf
    obtain ⟨n, rfl⟩ : ∃ j, n = j + 1 := ⟨n - 1, by omega⟩
    have e : decide (((i : Nat) : Int) < (nn : Nat)) = true := decide_eq_true (by omega)
    have w1 : IntKind.i64.wrap ((i : Int) - 1) = ((i - 1 : Nat) : Int) := by rw [wrap_i64] <;> omega
    have w2 : IntKind.i64.wrap (((i - 1 : Nat) : Int) * 64) = ((64 * (i - 1) : Nat) : Int) := by rw [wrap_i64] <;> omega
    have w3 : IntKind.i64.wrap ((i : Int) * 64) = ((64 * i : Nat) : Int) := by rw [wrap_i64] <;> omega
    have w4 : IntKind.i64.wrap ((a : Int) + (i : Int)) = (a : Int) + i := by rw [wrap_i64] <;> omega
    have w5 : IntKind.i64.wrap ((i : Int) + 1) = ((i + 1 : Nat) : Int) := by rw [wrap_i64] <;> omega
    have mn : (if ((b.length : Nat) : Int) < ((64 * i : Nat) : Int) then ((b.length : Nat) : Int) else ((64 * i : Nat) : Int)) = ((min (64 * i) b.length : Nat) : Int) := by split <;> omega
    obtain ⟨y, sy, by'⟩ := hx.sub (64 * (i - 1)) (min (64 * i) b.length) (by omega) (by omega)
    rw [chunk_eq b i h1] at by'
    obtain ⟨h2, q1, D2, k2⟩ := write_ok D up ((a : Int) + i) (U := fun _ => False) (.inl by') (fun _ _ h => h.elim) (by omega) hf N
    have hwl := write_loose d ((a : Int) + i) (chunk b i)
    have hwf := write_fuse d ((a : Int) + i) (chunk b i)
    by_cases hw : (d.write ((a : Int) + i) (chunk b i)).1 = 0
    · obtain ⟨h3, g1, g2, g3⟩ := ih (i + 1) n _ h2 (by omega) (by omega) (by omega) (up.keep k2) D2 (by omega) (by omega)
      rw [layLoop_go hw]
      refine ⟨h3, fun K => ?_, g2, k2.trans g3⟩
      rw [loopK_succ, ← g1 K]
      generalize loopK (_ : (List AV → Heap → Option (AV × Heap)) → List AV → Heap → Option (AV × Heap)) n = Lp
      rw [hw] at q1
      have c0 : decide ((0 : Int) ≠ 0) = false := by decide
      simp -implicitDefEqProofs only [B14_1, ↓runK_seq, runK_seq, ↓runK_cond, runK_cond, ↓runK_block, runK_block, ↓runK_loop, runK_loop, ↓runK_skip, runK_skip, ↓runK_ret, runK_ret, ↓runK_exit, runK_exit, ↓seqE_n, seqE_n, ↓seqE_e, seqE_e, ↓seqE_r, seqE_r, ↓blkE_n, blkE_n, ↓blkE_e, blkE_e, ↓blkE_r, blkE_r, ↓retK_n, retK_n, ↓retK_r, retK_r, ↓aCall_fn, aCall_fn, ↓bnd_s, bnd_s, ↓bnd2_s, bnd2_s, ↓onB_t, onB_t, ↓onB_f, onB_f, ↓onG_tt, onG_tt, ↓onG_tf, onG_tf, ↓onG_ft, onG_ft, ↓onG_ff, onG_ff, ↓onG_s, onG_s, ↓onT_t, onT_t, ↓aPick_t, aPick_t, ↓aPick_f, aPick_f, decide_true, decide_false, st_tmp, results1, results2, List.lookup_cons, List.lookup_nil, Nat.reduceBEq, Bool.false_eq_true, ↓reduceIte, BEq.rfl, Nat.reduceLT, Option.getD_some, Option.getD_none, ↓r14_0, r14_0, ↓r14_1, r14_1, J14_1_0, J14_1_1, J14_1_2, J14_1_3, J14_1_4, J14_1_5, J14_1_6, ↓r14_2, r14_2, ↓r14_3, r14_3, ↓r14_4, r14_4, J14_4_0, J14_4_1, J14_4_2, ↓r14_5, r14_5, ↓r14_6, r14_6, ↓r14_7, r14_7, ↓r14_8, r14_8, ↓r14_9, r14_9, ↓r14_10, r14_10, ↓r14_11, r14_11, ↓r14_12, r14_12, ↓r14_13, r14_13, ↓r14_14, r14_14, ↓r14_15, r14_15, ↓r14_16, r14_16, ↓r14_17, r14_17, ↓r14_18, r14_18, ↓r14_19, r14_19, ↓r14_20, r14_20, ↓r14_21, r14_21, ↓r14_22, r14_22, bin_lss, e, bin_sub, w1, bin_mul, w2, w3, hx.len, min2_i64, mn, sy, bin_add, w4, q1, neq27, c0, w5]
    · rw [layLoop_no hw]
      refine ⟨h2, fun K => ?_, D2, k2⟩
      rw [if_neg hw, loopK_succ]
      generalize loopK (_ : (List AV → Heap → Option (AV × Heap)) → List AV → Heap → Option (AV × Heap)) n = Lp
      have c0 : decide ((d.write ((a : Int) + i) (chunk b i)).1 ≠ 0) = true := decide_eq_true hw
      simp -implicitDefEqProofs only [B14_1, ↓runK_seq, runK_seq, ↓runK_cond, runK_cond, ↓runK_block, runK_block, ↓runK_loop, runK_loop, ↓runK_skip, runK_skip, ↓runK_ret, runK_ret, ↓runK_exit, runK_exit, ↓seqE_n, seqE_n, ↓seqE_e, seqE_e, ↓seqE_r, seqE_r, ↓blkE_n, blkE_n, ↓blkE_e, blkE_e, ↓blkE_r, blkE_r, ↓retK_n, retK_n, ↓retK_r, retK_r, ↓aCall_fn, aCall_fn, ↓bnd_s, bnd_s, ↓bnd2_s, bnd2_s, ↓onB_t, onB_t, ↓onB_f, onB_f, ↓onG_tt, onG_tt, ↓onG_tf, onG_tf, ↓onG_ft, onG_ft, ↓onG_ff, onG_ff, ↓onG_s, onG_s, ↓onT_t, onT_t, ↓aPick_t, aPick_t, ↓aPick_f, aPick_f, decide_true, decide_false, st_tmp, results1, results2, List.lookup_cons, List.lookup_nil, Nat.reduceBEq, Bool.false_eq_true, ↓reduceIte, BEq.rfl, Nat.reduceLT, Option.getD_some, Option.getD_none, ↓r14_0, r14_0, ↓r14_1, r14_1, J14_1_0, J14_1_1, J14_1_2, J14_1_3, J14_1_4, J14_1_5, J14_1_6, ↓r14_2, r14_2, ↓r14_3, r14_3, ↓r14_4, r14_4, J14_4_0, J14_4_1, J14_4_2, ↓r14_5, r14_5, ↓r14_6, r14_6, ↓r14_7, r14_7, ↓r14_8, r14_8, ↓r14_9, r14_9, ↓r14_10, r14_10, ↓r14_11, r14_11, ↓r14_12, r14_12, ↓r14_13, r14_13, ↓r14_14, r14_14, ↓r14_15, r14_15, ↓r14_16, r14_16, ↓r14_17, r14_17, ↓r14_18, r14_18, ↓r14_19, r14_19, ↓r14_20, r14_20, ↓r14_21, r14_21, ↓r14_22, r14_22, bin_lss, e, bin_sub, w1, bin_mul, w2, w3, hx.len, min2_i64, mn, sy, bin_add, w4, q1, neq27, c0]

/-- Lay's answer, and the disk then. -/
def Dk.lay (d : Dk) (at' e gen : Int) (b : List UInt8) : (Int × Int) × Dk :=
  if 8192 < b.length ∨ gen < 0 ∨ 2147483647 < gen ∨ at' < 0 then ((0, 1), d)
  else if e < at' ∨ min e d.lasts.length - at' < sizeOf b.length then ((0, 3), d)
  else
    let l := layLoop at' b ((sizeOf b.length).toNat - 1) 1 d
    if l.1 ≠ 0 then ((0, l.1), l.2)
    else if l.2.flush.1 ≠ 0 then ((0, l.2.flush.1), l.2.flush.2)
    else
      let w := l.2.flush.2.write at' (head16 (BitVec.ofInt 32 gen) b)
      if w.1 ≠ 0 then ((0, w.1), w.2)
      else if w.2.flush.1 ≠ 0 then ((0, w.2.flush.1), w.2.flush.2)
      else ((at' + sizeOf b.length, 0), w.2.flush.2)

theorem lay_arg {d : Dk} {at' e gen : Int} {b : List UInt8} (h : 8192 < b.length ∨ gen < 0 ∨ 2147483647 < gen ∨ at' < 0) : d.lay at' e gen b = ((0, 1), d) := if_pos h
theorem lay_full {d : Dk} {at' e gen : Int} {b : List UInt8} (h : ¬ (8192 < b.length ∨ gen < 0 ∨ 2147483647 < gen ∨ at' < 0)) (h2 : e < at' ∨ min e d.lasts.length - at' < sizeOf b.length) : d.lay at' e gen b = ((0, 3), d) := by
  unfold Dk.lay; rw [if_neg h, if_pos h2]
theorem lay_go {d : Dk} {at' e gen : Int} {b : List UInt8} (h : ¬ (8192 < b.length ∨ gen < 0 ∨ 2147483647 < gen ∨ at' < 0)) (h2 : ¬ (e < at' ∨ min e d.lasts.length - at' < sizeOf b.length)) {l : Int × Dk} (hl : layLoop at' b ((sizeOf b.length).toNat - 1) 1 d = l) :
    d.lay at' e gen b = if l.1 ≠ 0 then ((0, l.1), l.2)
    else if l.2.flush.1 ≠ 0 then ((0, l.2.flush.1), l.2.flush.2)
    else if (l.2.flush.2.write at' (head16 (BitVec.ofInt 32 gen) b)).1 ≠ 0 then ((0, (l.2.flush.2.write at' (head16 (BitVec.ofInt 32 gen) b)).1), (l.2.flush.2.write at' (head16 (BitVec.ofInt 32 gen) b)).2)
    else if (l.2.flush.2.write at' (head16 (BitVec.ofInt 32 gen) b)).2.flush.1 ≠ 0 then ((0, (l.2.flush.2.write at' (head16 (BitVec.ofInt 32 gen) b)).2.flush.1), (l.2.flush.2.write at' (head16 (BitVec.ofInt 32 gen) b)).2.flush.2)
    else ((at' + sizeOf b.length, 0), (l.2.flush.2.write at' (head16 (BitVec.ofInt 32 gen) b)).2.flush.2) := by
  subst hl; unfold Dk.lay; rw [if_neg h, if_neg h2]

theorem ln0 (p : Nat) (at' e gen : Int) (x : AV) : ([dp p, .int .i64 at', .int .i64 e, .int .i64 gen, x] ++ List.replicate (96 - [dp p, .int .i64 at', .int .i64 e, .int .i64 gen, x].length) AV.undef) =
    st 96 [(0, dp p), (1, .int .i64 at'), (2, .int .i64 e), (3, .int .i64 gen), (4, x)] := rfl

theorem lay_ok {S : Obs} {p r : Nat} {h : Heap} {d : Dk} (D : Dsk S h p r d) (up : Up S h) (hl : d.loose.length < 2 ^ 29) (hf : d.fuse < 2 ^ 63) (at' e gen : Int) (hat : at' < 2 ^ 63) {x : AV} {b : List UInt8} (hx : Bs x b)
    (hbl : b.length < 2 ^ 61) (k : Nat) (hk : d.loose.length + 9000 < k) :
    ∃ h', exFn C0 E0 (k + 1) false 14 [dp p, .int .i64 at', .int .i64 e, .int .i64 gen, x] h = some (.tuple [.int .i64 (d.lay at' e gen b).1.1, .int .i64 (d.lay at' e gen b).1.2], h') ∧ Dsk S h' p r (d.lay at' e gen b).2 ∧ Keep S h h' := by
  obtain ⟨k, rfl⟩ : ∃ j, k = j + 9 := ⟨k - 9, by omega⟩
  have hfew := D.few
  by_cases q1 : 8192 < b.length
  · have e1 : decide ((8192 : Int) < (b.length : Nat)) = true := decide_eq_true (by omega)
    rw [lay_arg (.inl q1)]
    refine ⟨h, exFn_of e14 ?_, D, Keep.refl _ _⟩
    rw [fnK, ln0, s14]
    simp -implicitDefEqProofs only [↓runK_seq, runK_seq, ↓runK_cond, runK_cond, ↓runK_block, runK_block, ↓runK_loop, runK_loop, ↓runK_skip, runK_skip, ↓runK_ret, runK_ret, ↓runK_exit, runK_exit, ↓seqE_n, seqE_n, ↓seqE_e, seqE_e, ↓seqE_r, seqE_r, ↓blkE_n, blkE_n, ↓blkE_e, blkE_e, ↓blkE_r, blkE_r, ↓retK_n, retK_n, ↓retK_r, retK_r, ↓aCall_fn, aCall_fn, ↓bnd_s, bnd_s, ↓bnd2_s, bnd2_s, ↓onB_t, onB_t, ↓onB_f, onB_f, ↓onG_tt, onG_tt, ↓onG_tf, onG_tf, ↓onG_ft, onG_ft, ↓onG_ff, onG_ff, ↓onG_s, onG_s, ↓onT_t, onT_t, ↓aPick_t, aPick_t, ↓aPick_f, aPick_f, decide_true, decide_false, st_tmp, results1, results2, List.lookup_cons, List.lookup_nil, Nat.reduceBEq, Bool.false_eq_true, ↓reduceIte, BEq.rfl, Nat.reduceLT, Option.getD_some, Option.getD_none, ↓r14_0, r14_0, ↓r14_1, r14_1, J14_1_0, J14_1_1, J14_1_2, J14_1_3, J14_1_4, J14_1_5, J14_1_6, ↓r14_2, r14_2, ↓r14_3, r14_3, ↓r14_4, r14_4, J14_4_0, J14_4_1, J14_4_2, ↓r14_5, r14_5, ↓r14_6, r14_6, ↓r14_7, r14_7, ↓r14_8, r14_8, ↓r14_9, r14_9, ↓r14_10, r14_10, ↓r14_11, r14_11, ↓r14_12, r14_12, ↓r14_13, r14_13, ↓r14_14, r14_14, ↓r14_15, r14_15, ↓r14_16, r14_16, ↓r14_17, r14_17, ↓r14_18, r14_18, ↓r14_19, r14_19, ↓r14_20, r14_20, ↓r14_21, r14_21, ↓r14_22, r14_22, hx.len, bin_gtr, e1]
  have e1 : decide ((8192 : Int) < (b.length : Nat)) = false := decide_eq_false (by omega)
  by_cases q2 : gen < 0
  · have e2 : decide (gen < 0) = true := decide_eq_true q2
    rw [lay_arg (.inr (.inl q2))]
    refine ⟨h, exFn_of e14 ?_, D, Keep.refl _ _⟩
    rw [fnK, ln0, s14]
    simp -implicitDefEqProofs only [↓runK_seq, runK_seq, ↓runK_cond, runK_cond, ↓runK_block, runK_block, ↓runK_loop, runK_loop, ↓runK_skip, runK_skip, ↓runK_ret, runK_ret, ↓runK_exit, runK_exit, ↓seqE_n, seqE_n, ↓seqE_e, seqE_e, ↓seqE_r, seqE_r, ↓blkE_n, blkE_n, ↓blkE_e, blkE_e, ↓blkE_r, blkE_r, ↓retK_n, retK_n, ↓retK_r, retK_r, ↓aCall_fn, aCall_fn, ↓bnd_s, bnd_s, ↓bnd2_s, bnd2_s, ↓onB_t, onB_t, ↓onB_f, onB_f, ↓onG_tt, onG_tt, ↓onG_tf, onG_tf, ↓onG_ft, onG_ft, ↓onG_ff, onG_ff, ↓onG_s, onG_s, ↓onT_t, onT_t, ↓aPick_t, aPick_t, ↓aPick_f, aPick_f, decide_true, decide_false, st_tmp, results1, results2, List.lookup_cons, List.lookup_nil, Nat.reduceBEq, Bool.false_eq_true, ↓reduceIte, BEq.rfl, Nat.reduceLT, Option.getD_some, Option.getD_none, ↓r14_0, r14_0, ↓r14_1, r14_1, J14_1_0, J14_1_1, J14_1_2, J14_1_3, J14_1_4, J14_1_5, J14_1_6, ↓r14_2, r14_2, ↓r14_3, r14_3, ↓r14_4, r14_4, J14_4_0, J14_4_1, J14_4_2, ↓r14_5, r14_5, ↓r14_6, r14_6, ↓r14_7, r14_7, ↓r14_8, r14_8, ↓r14_9, r14_9, ↓r14_10, r14_10, ↓r14_11, r14_11, ↓r14_12, r14_12, ↓r14_13, r14_13, ↓r14_14, r14_14, ↓r14_15, r14_15, ↓r14_16, r14_16, ↓r14_17, r14_17, ↓r14_18, r14_18, ↓r14_19, r14_19, ↓r14_20, r14_20, ↓r14_21, r14_21, ↓r14_22, r14_22, hx.len, bin_gtr, e1, bin_lss, e2]
  have e2 : decide (gen < 0) = false := decide_eq_false q2
  by_cases q3 : 2147483647 < gen
  · have e3 : decide (2147483647 < gen) = true := decide_eq_true q3
    rw [lay_arg (.inr (.inr (.inl q3)))]
    refine ⟨h, exFn_of e14 ?_, D, Keep.refl _ _⟩
    rw [fnK, ln0, s14]
    simp -implicitDefEqProofs only [↓runK_seq, runK_seq, ↓runK_cond, runK_cond, ↓runK_block, runK_block, ↓runK_loop, runK_loop, ↓runK_skip, runK_skip, ↓runK_ret, runK_ret, ↓runK_exit, runK_exit, ↓seqE_n, seqE_n, ↓seqE_e, seqE_e, ↓seqE_r, seqE_r, ↓blkE_n, blkE_n, ↓blkE_e, blkE_e, ↓blkE_r, blkE_r, ↓retK_n, retK_n, ↓retK_r, retK_r, ↓aCall_fn, aCall_fn, ↓bnd_s, bnd_s, ↓bnd2_s, bnd2_s, ↓onB_t, onB_t, ↓onB_f, onB_f, ↓onG_tt, onG_tt, ↓onG_tf, onG_tf, ↓onG_ft, onG_ft, ↓onG_ff, onG_ff, ↓onG_s, onG_s, ↓onT_t, onT_t, ↓aPick_t, aPick_t, ↓aPick_f, aPick_f, decide_true, decide_false, st_tmp, results1, results2, List.lookup_cons, List.lookup_nil, Nat.reduceBEq, Bool.false_eq_true, ↓reduceIte, BEq.rfl, Nat.reduceLT, Option.getD_some, Option.getD_none, ↓r14_0, r14_0, ↓r14_1, r14_1, J14_1_0, J14_1_1, J14_1_2, J14_1_3, J14_1_4, J14_1_5, J14_1_6, ↓r14_2, r14_2, ↓r14_3, r14_3, ↓r14_4, r14_4, J14_4_0, J14_4_1, J14_4_2, ↓r14_5, r14_5, ↓r14_6, r14_6, ↓r14_7, r14_7, ↓r14_8, r14_8, ↓r14_9, r14_9, ↓r14_10, r14_10, ↓r14_11, r14_11, ↓r14_12, r14_12, ↓r14_13, r14_13, ↓r14_14, r14_14, ↓r14_15, r14_15, ↓r14_16, r14_16, ↓r14_17, r14_17, ↓r14_18, r14_18, ↓r14_19, r14_19, ↓r14_20, r14_20, ↓r14_21, r14_21, ↓r14_22, r14_22, hx.len, bin_gtr, e1, bin_lss, e2, e3]
  have e3 : decide (2147483647 < gen) = false := decide_eq_false q3
  by_cases q4 : at' < 0
  · have e4 : decide (at' < 0) = true := decide_eq_true q4
    rw [lay_arg (.inr (.inr (.inr q4)))]
    refine ⟨h, exFn_of e14 ?_, D, Keep.refl _ _⟩
    rw [fnK, ln0, s14]
    simp -implicitDefEqProofs only [↓runK_seq, runK_seq, ↓runK_cond, runK_cond, ↓runK_block, runK_block, ↓runK_loop, runK_loop, ↓runK_skip, runK_skip, ↓runK_ret, runK_ret, ↓runK_exit, runK_exit, ↓seqE_n, seqE_n, ↓seqE_e, seqE_e, ↓seqE_r, seqE_r, ↓blkE_n, blkE_n, ↓blkE_e, blkE_e, ↓blkE_r, blkE_r, ↓retK_n, retK_n, ↓retK_r, retK_r, ↓aCall_fn, aCall_fn, ↓bnd_s, bnd_s, ↓bnd2_s, bnd2_s, ↓onB_t, onB_t, ↓onB_f, onB_f, ↓onG_tt, onG_tt, ↓onG_tf, onG_tf, ↓onG_ft, onG_ft, ↓onG_ff, onG_ff, ↓onG_s, onG_s, ↓onT_t, onT_t, ↓aPick_t, aPick_t, ↓aPick_f, aPick_f, decide_true, decide_false, st_tmp, results1, results2, List.lookup_cons, List.lookup_nil, Nat.reduceBEq, Bool.false_eq_true, ↓reduceIte, BEq.rfl, Nat.reduceLT, Option.getD_some, Option.getD_none, ↓r14_0, r14_0, ↓r14_1, r14_1, J14_1_0, J14_1_1, J14_1_2, J14_1_3, J14_1_4, J14_1_5, J14_1_6, ↓r14_2, r14_2, ↓r14_3, r14_3, ↓r14_4, r14_4, J14_4_0, J14_4_1, J14_4_2, ↓r14_5, r14_5, ↓r14_6, r14_6, ↓r14_7, r14_7, ↓r14_8, r14_8, ↓r14_9, r14_9, ↓r14_10, r14_10, ↓r14_11, r14_11, ↓r14_12, r14_12, ↓r14_13, r14_13, ↓r14_14, r14_14, ↓r14_15, r14_15, ↓r14_16, r14_16, ↓r14_17, r14_17, ↓r14_18, r14_18, ↓r14_19, r14_19, ↓r14_20, r14_20, ↓r14_21, r14_21, ↓r14_22, r14_22, hx.len, bin_gtr, e1, bin_lss, e2, e3, e4]
  have e4 : decide (at' < 0) = false := decide_eq_false q4
  have ha : ¬ (8192 < b.length ∨ gen < 0 ∨ 2147483647 < gen ∨ at' < 0) := fun h => h.elim q1 fun h => h.elim q2 fun h => h.elim q3 q4
  have sk := size_ok (b.length : Int) (by omega) false h (k + 8)
  by_cases q5 : e < at'
  · have e5 : decide (e < at') = true := decide_eq_true q5
    rw [lay_full ha (.inl q5)]
    refine ⟨h, exFn_of e14 ?_, D, Keep.refl _ _⟩
    rw [fnK, ln0, s14]
    simp -implicitDefEqProofs only [↓runK_seq, runK_seq, ↓runK_cond, runK_cond, ↓runK_block, runK_block, ↓runK_loop, runK_loop, ↓runK_skip, runK_skip, ↓runK_ret, runK_ret, ↓runK_exit, runK_exit, ↓seqE_n, seqE_n, ↓seqE_e, seqE_e, ↓seqE_r, seqE_r, ↓blkE_n, blkE_n, ↓blkE_e, blkE_e, ↓blkE_r, blkE_r, ↓retK_n, retK_n, ↓retK_r, retK_r, ↓aCall_fn, aCall_fn, ↓bnd_s, bnd_s, ↓bnd2_s, bnd2_s, ↓onB_t, onB_t, ↓onB_f, onB_f, ↓onG_tt, onG_tt, ↓onG_tf, onG_tf, ↓onG_ft, onG_ft, ↓onG_ff, onG_ff, ↓onG_s, onG_s, ↓onT_t, onT_t, ↓aPick_t, aPick_t, ↓aPick_f, aPick_f, decide_true, decide_false, st_tmp, results1, results2, List.lookup_cons, List.lookup_nil, Nat.reduceBEq, Bool.false_eq_true, ↓reduceIte, BEq.rfl, Nat.reduceLT, Option.getD_some, Option.getD_none, ↓r14_0, r14_0, ↓r14_1, r14_1, J14_1_0, J14_1_1, J14_1_2, J14_1_3, J14_1_4, J14_1_5, J14_1_6, ↓r14_2, r14_2, ↓r14_3, r14_3, ↓r14_4, r14_4, J14_4_0, J14_4_1, J14_4_2, ↓r14_5, r14_5, ↓r14_6, r14_6, ↓r14_7, r14_7, ↓r14_8, r14_8, ↓r14_9, r14_9, ↓r14_10, r14_10, ↓r14_11, r14_11, ↓r14_12, r14_12, ↓r14_13, r14_13, ↓r14_14, r14_14, ↓r14_15, r14_15, ↓r14_16, r14_16, ↓r14_17, r14_17, ↓r14_18, r14_18, ↓r14_19, r14_19, ↓r14_20, r14_20, ↓r14_21, r14_21, ↓r14_22, r14_22, hx.len, bin_gtr, e1, bin_lss, e2, e3, e4, sk, e5]
  have e5 : decide (e < at') = false := decide_eq_false q5
  have mn : (if ((d.lasts.length : Nat) : Int) < e then ((d.lasts.length : Nat) : Int) else e) = min e d.lasts.length := by split <;> omega
  have ws : IntKind.i64.wrap (min e d.lasts.length - at') = min e d.lasts.length - at' := by rw [wrap_i64] <;> omega
  have lk := len_ok D false (k + 8)
  by_cases q6 : min e d.lasts.length - at' < sizeOf b.length
  · have e6 : decide (min e d.lasts.length - at' < sizeOf b.length) = true := decide_eq_true q6
    rw [lay_full ha (.inr q6)]
    refine ⟨h, exFn_of e14 ?_, D, Keep.refl _ _⟩
    rw [fnK, ln0, s14]
    simp -implicitDefEqProofs only [↓runK_seq, runK_seq, ↓runK_cond, runK_cond, ↓runK_block, runK_block, ↓runK_loop, runK_loop, ↓runK_skip, runK_skip, ↓runK_ret, runK_ret, ↓runK_exit, runK_exit, ↓seqE_n, seqE_n, ↓seqE_e, seqE_e, ↓seqE_r, seqE_r, ↓blkE_n, blkE_n, ↓blkE_e, blkE_e, ↓blkE_r, blkE_r, ↓retK_n, retK_n, ↓retK_r, retK_r, ↓aCall_fn, aCall_fn, ↓bnd_s, bnd_s, ↓bnd2_s, bnd2_s, ↓onB_t, onB_t, ↓onB_f, onB_f, ↓onG_tt, onG_tt, ↓onG_tf, onG_tf, ↓onG_ft, onG_ft, ↓onG_ff, onG_ff, ↓onG_s, onG_s, ↓onT_t, onT_t, ↓aPick_t, aPick_t, ↓aPick_f, aPick_f, decide_true, decide_false, st_tmp, results1, results2, List.lookup_cons, List.lookup_nil, Nat.reduceBEq, Bool.false_eq_true, ↓reduceIte, BEq.rfl, Nat.reduceLT, Option.getD_some, Option.getD_none, ↓r14_0, r14_0, ↓r14_1, r14_1, J14_1_0, J14_1_1, J14_1_2, J14_1_3, J14_1_4, J14_1_5, J14_1_6, ↓r14_2, r14_2, ↓r14_3, r14_3, ↓r14_4, r14_4, J14_4_0, J14_4_1, J14_4_2, ↓r14_5, r14_5, ↓r14_6, r14_6, ↓r14_7, r14_7, ↓r14_8, r14_8, ↓r14_9, r14_9, ↓r14_10, r14_10, ↓r14_11, r14_11, ↓r14_12, r14_12, ↓r14_13, r14_13, ↓r14_14, r14_14, ↓r14_15, r14_15, ↓r14_16, r14_16, ↓r14_17, r14_17, ↓r14_18, r14_18, ↓r14_19, r14_19, ↓r14_20, r14_20, ↓r14_21, r14_21, ↓r14_22, r14_22, hx.len, bin_gtr, e1, bin_lss, e2, e3, e4, sk, e5, lk, min2_i64, mn, bin_sub, ws, e6]
  have e6 : decide (min e d.lasts.length - at' < sizeOf b.length) = false := decide_eq_false q6
  obtain ⟨nn, hnn⟩ : ∃ nn : Nat, sizeOf b.length = nn := ⟨(sizeOf b.length).toNat, by unfold sizeOf; omega⟩
  have hnn1 : (nn : Int) = 1 + ((b.length : Int) + 63) / 64 := by rw [← hnn]; unfold sizeOf; omega
  obtain ⟨a, rfl⟩ : ∃ a : Nat, at' = a := ⟨at'.toNat, by omega⟩
  have hl1 := layLoop_loose (a : Int) b (nn - 1) 1 d
  have hl2 := layLoop_fuse (a : Int) b (nn - 1) 1 d
  obtain ⟨h1, f1, f2, f3⟩ := lay_loop (S := S) (p := p) (r := r) hx a nn (.int .i64 gen) (k + 6) (by omega) (by omega) (nn - 1) 1 (k + 9) d h (by omega) (by omega) (by omega) up D (by omega) hf
  rw [show ((1 : Nat) : Int) = 1 from rfl] at f1
  rw [lay_go ha (fun h => h.elim q5 q6) (l := layLoop (a : Int) b (nn - 1) 1 d) (by rw [hnn]; rfl)]
  rw [hnn] at sk e6
  generalize hL : layLoop (a : Int) b (nn - 1) 1 d = L at *
  obtain ⟨le, ld⟩ := L
  simp only at f1 f2 hl1 hl2 ⊢
  have pre : ∀ r : AV × Heap, (if le = 0 then seqE (runK C0 (exFn C0 E0 (k + 9)) false 14 (k + 9) (.seq (.seq (.region 13 (O14 13) false) (.seq (.region 14 (O14 14) false) (.cond (.tmp 77) (.seq (.region 15 (O14 15) false) .ret) .skip))) (.seq (.seq (.region 16 (O14 16) false) (.seq (.region 17 (O14 17) false) (.cond (.tmp 86) (.seq (.region 18 (O14 18) false) .ret) .skip))) (.seq (.seq (.region 19 (O14 19) false) (.seq (.region 20 (O14 20) false) (.cond (.tmp 91) (.seq (.region 21 (O14 21) false) .ret) .skip))) (.seq (.region 22 (O14 22) false) .ret)))) (retK [10, 11])) (retK [10, 11]) .normal (st 96 [(0, dp p), (1, .int .i64 a), (3, .int .i64 gen), (4, x), (12, .int .i64 nn), (13, .int .i64 nn), (52, .bool false)]) h1
      else some (.tuple [.int .i64 0, .int .i64 le], h1)) = some r → exFn C0 E0 (k + 9 + 1) false 14 [dp p, .int .i64 a, .int .i64 e, .int .i64 gen, x] h = some r := by
    intro r hr
    refine exFn_of e14 ?_
    rw [fnK, ln0, s14]
    simp -implicitDefEqProofs only [↓runK_seq, runK_seq, ↓runK_cond, runK_cond, ↓runK_block, runK_block, ↓runK_loop, runK_loop, ↓runK_skip, runK_skip, ↓runK_ret, runK_ret, ↓runK_exit, runK_exit, ↓seqE_n, seqE_n, ↓seqE_e, seqE_e, ↓seqE_r, seqE_r, ↓blkE_n, blkE_n, ↓blkE_e, blkE_e, ↓blkE_r, blkE_r, ↓retK_n, retK_n, ↓retK_r, retK_r, ↓aCall_fn, aCall_fn, ↓bnd_s, bnd_s, ↓bnd2_s, bnd2_s, ↓onB_t, onB_t, ↓onB_f, onB_f, ↓onG_tt, onG_tt, ↓onG_tf, onG_tf, ↓onG_ft, onG_ft, ↓onG_ff, onG_ff, ↓onG_s, onG_s, ↓onT_t, onT_t, ↓aPick_t, aPick_t, ↓aPick_f, aPick_f, decide_true, decide_false, st_tmp, results1, results2, List.lookup_cons, List.lookup_nil, Nat.reduceBEq, Bool.false_eq_true, ↓reduceIte, BEq.rfl, Nat.reduceLT, Option.getD_some, Option.getD_none, ↓r14_0, r14_0, ↓r14_1, r14_1, J14_1_0, J14_1_1, J14_1_2, J14_1_3, J14_1_4, J14_1_5, J14_1_6, ↓r14_2, r14_2, ↓r14_3, r14_3, ↓r14_4, r14_4, J14_4_0, J14_4_1, J14_4_2, ↓r14_5, r14_5, ↓r14_6, r14_6, ↓r14_7, r14_7, ↓r14_8, r14_8, ↓r14_9, r14_9, ↓r14_10, r14_10, ↓r14_11, r14_11, ↓r14_12, r14_12, ↓r14_13, r14_13, ↓r14_14, r14_14, ↓r14_15, r14_15, ↓r14_16, r14_16, ↓r14_17, r14_17, ↓r14_18, r14_18, ↓r14_19, r14_19, ↓r14_20, r14_20, ↓r14_21, r14_21, ↓r14_22, r14_22, hx.len, bin_gtr, e1, bin_lss, e2, e3, e4, sk, e5, lk, min2_i64, mn, bin_sub, ws, e6]
    rw [f1]
    rw [← hr]
    split
    · simp -implicitDefEqProofs only [↓runK_seq, runK_seq, ↓runK_cond, runK_cond, ↓runK_block, runK_block, ↓runK_loop, runK_loop, ↓runK_skip, runK_skip, ↓runK_ret, runK_ret, ↓runK_exit, runK_exit, ↓seqE_n, seqE_n, ↓seqE_e, seqE_e, ↓seqE_r, seqE_r, ↓blkE_n, blkE_n, ↓blkE_e, blkE_e, ↓blkE_r, blkE_r, ↓retK_n, retK_n, ↓retK_r, retK_r]
    · simp -implicitDefEqProofs only [↓runK_seq, runK_seq, ↓runK_cond, runK_cond, ↓runK_block, runK_block, ↓runK_loop, runK_loop, ↓runK_skip, runK_skip, ↓runK_ret, runK_ret, ↓runK_exit, runK_exit, ↓seqE_n, seqE_n, ↓seqE_e, seqE_e, ↓seqE_r, seqE_r, ↓blkE_n, blkE_n, ↓blkE_e, blkE_e, ↓blkE_r, blkE_r, ↓retK_n, retK_n, ↓retK_r, retK_r, ↓aCall_fn, aCall_fn, ↓bnd_s, bnd_s, ↓bnd2_s, bnd2_s, ↓onB_t, onB_t, ↓onB_f, onB_f, ↓onG_tt, onG_tt, ↓onG_tf, onG_tf, ↓onG_ft, onG_ft, ↓onG_ff, onG_ff, ↓onG_s, onG_s, ↓onT_t, onT_t, ↓aPick_t, aPick_t, ↓aPick_f, aPick_f, decide_true, decide_false, st_tmp, results1, results2, List.lookup_cons, List.lookup_nil, Nat.reduceBEq, Bool.false_eq_true, ↓reduceIte, BEq.rfl, Nat.reduceLT, Option.getD_some, Option.getD_none]
  by_cases z1 : le = 0
  case neg =>
    rw [if_pos z1]
    refine ⟨h1, pre _ ?_, f2, f3⟩
    rw [if_neg z1]
  subst z1
  rw [if_neg (fun h => h rfl)]
  have c0 : decide ((0 : Int) ≠ 0) = false := by decide
  have up1 := up.keep f3
  obtain ⟨h2, g1, g2, g3⟩ := flush_ok f2 up1 (by omega) (by omega) false (k + 8) (by omega)
  have ffz := flush_fuse ld
  have flo := flush_loose ld
  generalize ld.flush = F at *
  obtain ⟨fe, fd⟩ := F
  simp only at g1 g2 ffz flo ⊢
  by_cases z2 : fe = 0
  case neg =>
    rw [if_pos z2]
    refine ⟨h2, pre _ ?_, g2, f3.trans g3⟩
    have c1 : decide (fe ≠ 0) = true := decide_eq_true z2
    rw [if_pos rfl]
    simp -implicitDefEqProofs only [↓runK_seq, runK_seq, ↓runK_cond, runK_cond, ↓runK_block, runK_block, ↓runK_loop, runK_loop, ↓runK_skip, runK_skip, ↓runK_ret, runK_ret, ↓runK_exit, runK_exit, ↓seqE_n, seqE_n, ↓seqE_e, seqE_e, ↓seqE_r, seqE_r, ↓blkE_n, blkE_n, ↓blkE_e, blkE_e, ↓blkE_r, blkE_r, ↓retK_n, retK_n, ↓retK_r, retK_r, ↓aCall_fn, aCall_fn, ↓bnd_s, bnd_s, ↓bnd2_s, bnd2_s, ↓onB_t, onB_t, ↓onB_f, onB_f, ↓onG_tt, onG_tt, ↓onG_tf, onG_tf, ↓onG_ft, onG_ft, ↓onG_ff, onG_ff, ↓onG_s, onG_s, ↓onT_t, onT_t, ↓aPick_t, aPick_t, ↓aPick_f, aPick_f, decide_true, decide_false, st_tmp, results1, results2, List.lookup_cons, List.lookup_nil, Nat.reduceBEq, Bool.false_eq_true, ↓reduceIte, BEq.rfl, Nat.reduceLT, Option.getD_some, Option.getD_none, ↓r14_0, r14_0, ↓r14_1, r14_1, J14_1_0, J14_1_1, J14_1_2, J14_1_3, J14_1_4, J14_1_5, J14_1_6, ↓r14_2, r14_2, ↓r14_3, r14_3, ↓r14_4, r14_4, J14_4_0, J14_4_1, J14_4_2, ↓r14_5, r14_5, ↓r14_6, r14_6, ↓r14_7, r14_7, ↓r14_8, r14_8, ↓r14_9, r14_9, ↓r14_10, r14_10, ↓r14_11, r14_11, ↓r14_12, r14_12, ↓r14_13, r14_13, ↓r14_14, r14_14, ↓r14_15, r14_15, ↓r14_16, r14_16, ↓r14_17, r14_17, ↓r14_18, r14_18, ↓r14_19, r14_19, ↓r14_20, r14_20, ↓r14_21, r14_21, ↓r14_22, r14_22, g1, neq27, c1]
  subst z2
  rw [if_neg (fun h => h rfl)]
  have up2 := up1.keep g3
  obtain ⟨y, h3, i1, i2, i3⟩ := first_ok hx (by omega) gen h2 (k + 8) (by omega)
  have g2' := g2.fresh i3
  have up3 := up2.keep i3
  obtain ⟨h4, j1, j2, j3⟩ := write_ok g2' up3 (a : Int) (U := fun _ => False) (b := head16 (BitVec.ofInt 32 gen) b) (.inl i2.bs) (fun _ _ h => h.elim) (by omega) (by omega) (k + 6)
  have wfz := write_fuse fd (a : Int) (head16 (BitVec.ofInt 32 gen) b)
  have wlo := write_loose fd (a : Int) (head16 (BitVec.ofInt 32 gen) b)
  have kk := (f3.trans g3).trans (i3.up up2)
  generalize fd.write (a : Int) (head16 (BitVec.ofInt 32 gen) b) = W at *
  obtain ⟨we, wd⟩ := W
  simp only at j1 j2 wfz wlo ⊢
  by_cases z3 : we = 0
  case neg =>
    rw [if_pos z3]
    refine ⟨h4, pre _ ?_, j2, kk.trans j3⟩
    have c1 : decide (we ≠ 0) = true := decide_eq_true z3
    rw [if_pos rfl]
    simp -implicitDefEqProofs only [↓runK_seq, runK_seq, ↓runK_cond, runK_cond, ↓runK_block, runK_block, ↓runK_loop, runK_loop, ↓runK_skip, runK_skip, ↓runK_ret, runK_ret, ↓runK_exit, runK_exit, ↓seqE_n, seqE_n, ↓seqE_e, seqE_e, ↓seqE_r, seqE_r, ↓blkE_n, blkE_n, ↓blkE_e, blkE_e, ↓blkE_r, blkE_r, ↓retK_n, retK_n, ↓retK_r, retK_r, ↓aCall_fn, aCall_fn, ↓bnd_s, bnd_s, ↓bnd2_s, bnd2_s, ↓onB_t, onB_t, ↓onB_f, onB_f, ↓onG_tt, onG_tt, ↓onG_tf, onG_tf, ↓onG_ft, onG_ft, ↓onG_ff, onG_ff, ↓onG_s, onG_s, ↓onT_t, onT_t, ↓aPick_t, aPick_t, ↓aPick_f, aPick_f, decide_true, decide_false, st_tmp, results1, results2, List.lookup_cons, List.lookup_nil, Nat.reduceBEq, Bool.false_eq_true, ↓reduceIte, BEq.rfl, Nat.reduceLT, Option.getD_some, Option.getD_none, ↓r14_0, r14_0, ↓r14_1, r14_1, J14_1_0, J14_1_1, J14_1_2, J14_1_3, J14_1_4, J14_1_5, J14_1_6, ↓r14_2, r14_2, ↓r14_3, r14_3, ↓r14_4, r14_4, J14_4_0, J14_4_1, J14_4_2, ↓r14_5, r14_5, ↓r14_6, r14_6, ↓r14_7, r14_7, ↓r14_8, r14_8, ↓r14_9, r14_9, ↓r14_10, r14_10, ↓r14_11, r14_11, ↓r14_12, r14_12, ↓r14_13, r14_13, ↓r14_14, r14_14, ↓r14_15, r14_15, ↓r14_16, r14_16, ↓r14_17, r14_17, ↓r14_18, r14_18, ↓r14_19, r14_19, ↓r14_20, r14_20, ↓r14_21, r14_21, ↓r14_22, r14_22, g1, neq27, c0, i1, j1, c1]
  subst z3
  rw [if_neg (fun h => h rfl)]
  have up4 := up3.keep j3
  obtain ⟨h5, l1, l2, l3⟩ := flush_ok j2 up4 (by omega) (by omega) false (k + 8) (by omega)
  generalize wd.flush = G at *
  obtain ⟨ge, gd⟩ := G
  simp only at l1 l2 ⊢
  by_cases z4 : ge = 0
  case neg =>
    rw [if_pos z4]
    refine ⟨h5, pre _ ?_, l2, (kk.trans j3).trans l3⟩
    have c1 : decide (ge ≠ 0) = true := decide_eq_true z4
    rw [if_pos rfl]
    simp -implicitDefEqProofs only [↓runK_seq, runK_seq, ↓runK_cond, runK_cond, ↓runK_block, runK_block, ↓runK_loop, runK_loop, ↓runK_skip, runK_skip, ↓runK_ret, runK_ret, ↓runK_exit, runK_exit, ↓seqE_n, seqE_n, ↓seqE_e, seqE_e, ↓seqE_r, seqE_r, ↓blkE_n, blkE_n, ↓blkE_e, blkE_e, ↓blkE_r, blkE_r, ↓retK_n, retK_n, ↓retK_r, retK_r, ↓aCall_fn, aCall_fn, ↓bnd_s, bnd_s, ↓bnd2_s, bnd2_s, ↓onB_t, onB_t, ↓onB_f, onB_f, ↓onG_tt, onG_tt, ↓onG_tf, onG_tf, ↓onG_ft, onG_ft, ↓onG_ff, onG_ff, ↓onG_s, onG_s, ↓onT_t, onT_t, ↓aPick_t, aPick_t, ↓aPick_f, aPick_f, decide_true, decide_false, st_tmp, results1, results2, List.lookup_cons, List.lookup_nil, Nat.reduceBEq, Bool.false_eq_true, ↓reduceIte, BEq.rfl, Nat.reduceLT, Option.getD_some, Option.getD_none, ↓r14_0, r14_0, ↓r14_1, r14_1, J14_1_0, J14_1_1, J14_1_2, J14_1_3, J14_1_4, J14_1_5, J14_1_6, ↓r14_2, r14_2, ↓r14_3, r14_3, ↓r14_4, r14_4, J14_4_0, J14_4_1, J14_4_2, ↓r14_5, r14_5, ↓r14_6, r14_6, ↓r14_7, r14_7, ↓r14_8, r14_8, ↓r14_9, r14_9, ↓r14_10, r14_10, ↓r14_11, r14_11, ↓r14_12, r14_12, ↓r14_13, r14_13, ↓r14_14, r14_14, ↓r14_15, r14_15, ↓r14_16, r14_16, ↓r14_17, r14_17, ↓r14_18, r14_18, ↓r14_19, r14_19, ↓r14_20, r14_20, ↓r14_21, r14_21, ↓r14_22, r14_22, g1, neq27, c0, i1, j1, l1, c1]
  subst z4
  rw [if_neg (fun h => h rfl)]
  refine ⟨h5, pre _ ?_, l2, (kk.trans j3).trans l3⟩
  have wf : IntKind.i64.wrap ((a : Int) + nn) = (a : Int) + nn := by rw [wrap_i64] <;> omega
  rw [if_pos rfl]
  simp -implicitDefEqProofs only [↓runK_seq, runK_seq, ↓runK_cond, runK_cond, ↓runK_block, runK_block, ↓runK_loop, runK_loop, ↓runK_skip, runK_skip, ↓runK_ret, runK_ret, ↓runK_exit, runK_exit, ↓seqE_n, seqE_n, ↓seqE_e, seqE_e, ↓seqE_r, seqE_r, ↓blkE_n, blkE_n, ↓blkE_e, blkE_e, ↓blkE_r, blkE_r, ↓retK_n, retK_n, ↓retK_r, retK_r, ↓aCall_fn, aCall_fn, ↓bnd_s, bnd_s, ↓bnd2_s, bnd2_s, ↓onB_t, onB_t, ↓onB_f, onB_f, ↓onG_tt, onG_tt, ↓onG_tf, onG_tf, ↓onG_ft, onG_ft, ↓onG_ff, onG_ff, ↓onG_s, onG_s, ↓onT_t, onT_t, ↓aPick_t, aPick_t, ↓aPick_f, aPick_f, decide_true, decide_false, st_tmp, results1, results2, List.lookup_cons, List.lookup_nil, Nat.reduceBEq, Bool.false_eq_true, ↓reduceIte, BEq.rfl, Nat.reduceLT, Option.getD_some, Option.getD_none, ↓r14_0, r14_0, ↓r14_1, r14_1, J14_1_0, J14_1_1, J14_1_2, J14_1_3, J14_1_4, J14_1_5, J14_1_6, ↓r14_2, r14_2, ↓r14_3, r14_3, ↓r14_4, r14_4, J14_4_0, J14_4_1, J14_4_2, ↓r14_5, r14_5, ↓r14_6, r14_6, ↓r14_7, r14_7, ↓r14_8, r14_8, ↓r14_9, r14_9, ↓r14_10, r14_10, ↓r14_11, r14_11, ↓r14_12, r14_12, ↓r14_13, r14_13, ↓r14_14, r14_14, ↓r14_15, r14_15, ↓r14_16, r14_16, ↓r14_17, r14_17, ↓r14_18, r14_18, ↓r14_19, r14_19, ↓r14_20, r14_20, ↓r14_21, r14_21, ↓r14_22, r14_22, g1, neq27, c0, i1, j1, l1, bin_add, wf, hnn]
end Go.Ax

/- What the regions of some functions hand on. Printed by a program of mine (gen.py). -/
set_option linter.unusedVariables false
namespace Go.Ax
open Go Go.Proofs
/-! ### interregnum/region.Scan -/
noncomputable def O15 (i : Nat) : Array Oper := opsOf i (bodyOf Try.f15)
noncomputable def B15_1 : Code := (.block 1 (.seq (.region 2 (O15 2) false) (.seq (.seq (.region 3 (O15 3) false) (.cond (Go.Operand.tmp 22) (.seq (.region 4 (O15 4) false) .ret) .skip)) (.seq (.region 5 (O15 5) false) (.region 6 (O15 6) false)))))
theorem s15 : bodyOf Try.f15 = (.seq (.region 0 (O15 0) false) (.seq (.region 1 (O15 1) false) (.block 0 (.loop B15_1)))) := by kernel_rfl
theorem e15 : E0 15 = some ⟨34, [8, 9], bodyOf Try.f15⟩ := by kernel_rfl
theorem r15_0 {β : Type} (call : CallF) (md : Bool) (n : Nat) (k : Ex → List AV → Heap → Option β) (x0 x1 x2 x3 : AV) (h : Heap) :
    runK C0 call md 15 n (.region 0 (O15 0) false) k (st 34 [(0, x0), (1, x1), (2, x2), (3, x3)]) h =
    k .normal (st 34 [(0, x0), (1, x1), (2, x2), (3, x3)]) h
  := by kernel_rfl
theorem r15_1 {β : Type} (call : CallF) (md : Bool) (n : Nat) (k : Ex → List AV → Heap → Option β) (x0 x1 x2 x3 : AV) (h : Heap) :
    runK C0 call md 15 n (.region 1 (O15 1) false) k (st 34 [(0, x0), (1, x1), (2, x2), (3, x3)]) h =
    k .normal (st 34 [(0, x0), (1, x1), (2, x2), (3, x3), (10, .nils)]) h
  := by kernel_rfl
theorem r15_2 {β : Type} (call : CallF) (md : Bool) (n : Nat) (k : Ex → List AV → Heap → Option β) (x0 x1 x2 x3 x10 : AV) (h : Heap) :
    runK C0 call md 15 n (.region 2 (O15 2) false) k (st 34 [(0, x0), (1, x1), (2, x2), (3, x3), (10, x10)]) h =
    bnd2 (aCall call md (.fn (.func 48) []) [x0, x1, x2, x3] h) fun v1 h2 =>
    bnd (aExtract v1 0) fun v3 =>
    bnd (aExtract v1 1) fun v4 =>
    k .normal (st 34 [(0, x0), (1, x1), (2, x2), (3, x3), (10, x10), (11, v3), (12, v4)]) h2
  := by kernel_rfl
theorem r15_3 {β : Type} (call : CallF) (md : Bool) (n : Nat) (k : Ex → List AV → Heap → Option β) (x0 x1 x2 x3 x10 x11 x12 : AV) (h : Heap) :
    runK C0 call md 15 n (.region 3 (O15 3) false) k (st 34 [(0, x0), (1, x1), (2, x2), (3, x3), (10, x10), (11, x11), (12, x12)]) h =
    bnd (aUn .not x12) fun v1 =>
    k .normal (st 34 [(0, x0), (1, x1), (2, x2), (3, x3), (10, x10), (11, x11), (22, v1)]) h
  := by kernel_rfl
theorem r15_4 {β : Type} (call : CallF) (md : Bool) (n : Nat) (k : Ex → List AV → Heap → Option β) (x0 x1 x2 x3 x10 x11 x22 : AV) (h : Heap) :
    runK C0 call md 15 n (.region 4 (O15 4) false) k (st 34 [(0, x0), (1, x1), (2, x2), (3, x3), (10, x10), (11, x11), (22, x22)]) h =
    k .normal (st 34 [(8, x10), (9, x1)]) h
  := by kernel_rfl
theorem r15_5 {β : Type} (call : CallF) (md : Bool) (n : Nat) (k : Ex → List AV → Heap → Option β) (x0 x1 x2 x3 x10 x11 x22 : AV) (h : Heap) :
    runK C0 call md 15 n (.region 5 (O15 5) false) k (st 34 [(0, x0), (1, x1), (2, x2), (3, x3), (10, x10), (11, x11), (22, x22)]) h =
    bnd (aLit tab 30 1 [(0, x11)]) fun v1 =>
    bnd2 (aApp tab 30 30 md x10 v1 h) fun v2 h3 =>
    k .normal (st 34 [(0, x0), (1, x1), (2, x2), (3, x3), (10, v2), (11, x11)]) h3
  := by kernel_rfl
theorem r15_6 {β : Type} (call : CallF) (md : Bool) (n : Nat) (k : Ex → List AV → Heap → Option β) (x0 x1 x2 x3 x10 x11 : AV) (h : Heap) :
    runK C0 call md 15 n (.region 6 (O15 6) false) k (st 34 [(0, x0), (1, x1), (2, x2), (3, x3), (10, x10), (11, x11)]) h =
    bnd (aLen tab 22 x11) fun v1 =>
    bnd2 (aCall call md (.fn (.func 45) []) [v1] h) fun v2 h3 =>
    bnd (aBinC tab .add 3 x1 v2 false) fun v4 =>
    k .normal (st 34 [(0, x0), (1, v4), (2, x2), (3, x3), (10, x10)]) h3
  := by kernel_rfl
end Go.Ax

/- region.Scan: the entries of a generation. -/
namespace Go.Ax
open Go Go.Proofs

theorem oneOf_some {now : List (List UInt8)} (hc : ∀ b ∈ now, b.length = 64) {at' e gen : Int} {b : List UInt8} (h : oneOf now at' e gen = some b) :
    0 ≤ at' ∧ at' + sizeOf b.length ≤ now.length ∧ at' + sizeOf b.length ≤ e ∧ b.length ≤ 8192 := by
  unfold oneOf at h
  split at h
  · rename_i h0
    simp only at h
    split at h
    · cases h
    · split at h
      · cases h
      · rename_i h1 h2
        split at h
        · generalize hs : (get4 (((now[at'.toNat]?).getD []).drop 4)).toNat = size at *
          have h3 : ¬ 8192 < size := fun x => h2 (.inl x)
          have h4 : ¬ min e now.length - at' < sizeOf size := fun x => h2 (.inr x)
          have hl := bodyAt_length now hc at'.toNat ((sizeOf size).toNat - 1) (by unfold sizeOf at h4 ⊢; omega)
          have hb : b.length = size := by
            cases h
            rw [List.length_take, hl]
            unfold sizeOf
            omega
          rw [hb]
          exact ⟨h0.1, by omega, by omega, by omega⟩
        · cases h
  · cases h

theorem sizeOf_pos (n : Int) : 1 ≤ sizeOf n := by unfold sizeOf; omega

/-- The entries from a sector on, and the sector behind them. -/
def scanOf (now : List (List UInt8)) (e gen : Int) : Nat → Int → List (List UInt8) × Int
  | 0, a => ([], a)
  | f + 1, a => match oneOf now a e gen with
    | none => ([], a)
    | some b => (b :: (scanOf now e gen f (a + sizeOf b.length)).1, (scanOf now e gen f (a + sizeOf b.length)).2)

theorem scanOf_none {now : List (List UInt8)} {e gen a : Int} {f : Nat} (h : oneOf now a e gen = none) : scanOf now e gen (f + 1) a = ([], a) := by simp [scanOf, h]
theorem scanOf_some {now : List (List UInt8)} {e gen a : Int} {f : Nat} {b : List UInt8} (h : oneOf now a e gen = some b) :
    scanOf now e gen (f + 1) a = (b :: (scanOf now e gen f (a + sizeOf b.length)).1, (scanOf now e gen f (a + sizeOf b.length)).2) := by simp [scanOf, h]

/-- Byte slices of so many contents. -/
inductive BsL : List AV → List (List UInt8) → Prop
  | nil : BsL [] []
  | cons {v l vs ls} : Bs v l → BsL vs ls → BsL (v :: vs) (l :: ls)

/-- Lists of bytes to append to. -/
def ApR (S : Obs) (h : Heap) (x : AV) (ls : List (List UInt8)) : Prop := ∃ vs, Ap 22 S h x vs ∧ BsL vs ls

theorem Bs.fits {x : AV} {l : List UInt8} (b : Bs x l) : fits tab 22 x = true := by
  rcases b with ⟨rfl, -⟩ | ⟨k, rfl⟩ <;> rfl
theorem lit30 (v : AV) (h : fits tab 22 v = true) : aLit tab 30 1 [(0, v)] = some (.vsl 22 [v] .exact) := by simp [aLit, aElems, aFill, h]
theorem app30 (x : AV) (new : List AV) (k : Tok) (h : Heap) : aApp tab 30 30 false x (.vsl 22 new k) h = aAppend tab 22 false x new h := by kernel_rfl

theorem BsL.length : ∀ {l : List AV} {m : List (List UInt8)}, BsL l m → l.length = m.length
  | _, _, .nil => rfl
  | _, _, .cons _ t => by simp [BsL.length t]
theorem BsL.append : ∀ {l l' : List AV} {m m' : List (List UInt8)}, BsL l m → BsL l' m' → BsL (l ++ l') (m ++ m')
  | _, _, _, _, .nil, h => h
  | _, _, _, _, .cons a t, h => .cons a (BsL.append t h)

theorem ApR.append {S : Obs} {h : Heap} {x v : AV} {ls : List (List UInt8)} {b : List UInt8} (a : ApR S h x ls) (up : Up S h) (hv : Bs v b) (hl : ls.length < 2 ^ 40) :
    ∃ x' h', aAppend tab 22 false x [v] h = some (x', h') ∧ ApR S h' x' (ls ++ [b]) ∧ Keep S h h' := by
  obtain ⟨vs, ha, hf⟩ := a
  have e := hf.length
  obtain ⟨x', h', kk, ap, -, ha2, k2, -⟩ := Ap.append (T := tab) (e := 22) (S := S) (h := h) (x := x) (l := vs) (new := [v]) (by rw [tu22]; exact ha) up (by simp) (by simp)
    (by simp only [tb22, List.length_singleton]; omega) (by simp only [List.length_singleton]; omega) (by simp)
  rw [tu22] at ha2
  exact ⟨x', h', ap, ⟨_, ha2, hf.append (.cons hv .nil)⟩, k2⟩

theorem ApR.fresh {S : Obs} {h h' : Heap} {x : AV} {ls : List (List UInt8)} (a : ApR S h x ls) (k : Keep (From h.length) h h') : ApR S h' x ls := by
  obtain ⟨vs, ha, hf⟩ := a
  exact ⟨vs, ha.fresh k, hf⟩

theorem scan_loop {S U : Obs} {p r : Nat} {d : Dk} (hl : d.loose.length < 2 ^ 30) (dis : ∀ i, S i → ¬ U i) (e gen : Int) (N : Nat) (hN : d.loose.length + 9000 < N) :
    ∀ (f n : Nat) (a : Int) (acc : AV) (h : Heap) (ls : List (List UInt8)), (0 ≤ a → (d.lasts.length : Int) - a < f) → f ≤ n → 0 < f → Up U h → Dsk S h p r d → ApR U h acc ls → ls.length + (f : Int) < 2 ^ 39 →
    ∃ acc' h', (∀ K : Ex → List AV → Heap → Option (AV × Heap), loopK (fun next => runK C0 (exFn C0 E0 (N + 1)) false 15 (N + 1) B15_1 (seqE next K)) n (st 34 [(0, dp p), (1, .int .i64 a), (2, .int .i64 e), (3, .int .i64 gen), (10, acc)]) h =
      K .ret (st 34 [(8, acc'), (9, .int .i64 (scanOf d.now e gen f a).2)]) h') ∧
      ApR U h' acc' (ls ++ (scanOf d.now e gen f a).1) ∧ Keep U h h' := by
  intro f
  induction f with
  | zero => intro n a acc h ls _ _ h0; omega
  | succ f ih =>
    intro n a acc h ls hf hn _ up D hacc hll
    obtain ⟨n, rfl⟩ : ∃ j, n = j + 1 := ⟨n - 1, by omega⟩
    obtain ⟨x, h1, r1, r2, r3⟩ := one_ok D hl a e gen N hN
    have D1 := D.fresh r3
    have acc1 := hacc.fresh r3
    have up1 := up.keep r3
    cases ho : oneOf d.now a e gen with
    | none =>
      rw [ho] at r1
      rw [scanOf_none ho]
      refine ⟨acc, h1, fun K => ?_, by simpa using acc1, r3.up up⟩
      rw [loopK_succ]
      generalize loopK (_ : (List AV → Heap → Option (AV × Heap)) → List AV → Heap → Option (AV × Heap)) n = Lp
      simp -implicitDefEqProofs only [B15_1, ↓runK_seq, runK_seq, ↓runK_cond, runK_cond, ↓runK_block, runK_block, ↓runK_loop, runK_loop, ↓runK_skip, runK_skip, ↓runK_ret, runK_ret, ↓runK_exit, runK_exit, ↓seqE_n, seqE_n, ↓seqE_e, seqE_e, ↓seqE_r, seqE_r, ↓blkE_n, blkE_n, ↓blkE_e, blkE_e, ↓blkE_r, blkE_r, ↓retK_n, retK_n, ↓retK_r, retK_r, ↓aCall_fn, aCall_fn, ↓bnd_s, bnd_s, ↓bnd2_s, bnd2_s, ↓onB_t, onB_t, ↓onB_f, onB_f, ↓onG_tt, onG_tt, ↓onG_tf, onG_tf, ↓onG_ft, onG_ft, ↓onG_ff, onG_ff, ↓onG_s, onG_s, ↓onT_t, onT_t, ↓aPick_t, aPick_t, ↓aPick_f, aPick_f, decide_true, decide_false, st_tmp, results1, results2, List.lookup_cons, List.lookup_nil, Nat.reduceBEq, Bool.false_eq_true, ↓reduceIte, BEq.rfl, Nat.reduceLT, Option.getD_some, Option.getD_none, ↓r15_0, r15_0, ↓r15_1, r15_1, ↓r15_2, r15_2, ↓r15_3, r15_3, ↓r15_4, r15_4, ↓r15_5, r15_5, ↓r15_6, r15_6, r1, ext0, ext1, un_not, Option.isSome_none, Bool.not_false]
    | some b =>
      rw [ho] at r1
      obtain ⟨b1, b2, b3, b4⟩ := oneOf_some D.now_cells ho
      have hf := hf b1
      rw [D.now_length] at b2
      have hfew := D.few
      have hsp := sizeOf_pos b.length
      rw [scanOf_some ho]
      have bs := (r2 b ho).bs
      obtain ⟨acc', h2, ap, a2, k2⟩ := acc1.append up1 bs (by omega)
      have sk := size_ok (b.length : Int) (by omega) false h2 N
      have wr : IntKind.i64.wrap (a + sizeOf b.length) = a + sizeOf b.length := by rw [wrap_i64] <;> omega
      have k12 := (r3.up up).trans k2
      obtain ⟨acc'', h3, g1, g2, g3⟩ := ih n (a + sizeOf b.length) acc' h2 (ls ++ [b]) (by omega) (by omega) (by omega) (up1.keep k2) (D.keep k12 fun j _ hj => dis j hj) a2 (by simp only [List.length_append, List.length_singleton]; omega)
      refine ⟨acc'', h3, fun K => ?_, by simpa using g2, k12.trans g3⟩
      rw [loopK_succ, ← g1 K]
      generalize loopK (_ : (List AV → Heap → Option (AV × Heap)) → List AV → Heap → Option (AV × Heap)) n = Lp
      simp -implicitDefEqProofs only [B15_1, ↓runK_seq, runK_seq, ↓runK_cond, runK_cond, ↓runK_block, runK_block, ↓runK_loop, runK_loop, ↓runK_skip, runK_skip, ↓runK_ret, runK_ret, ↓runK_exit, runK_exit, ↓seqE_n, seqE_n, ↓seqE_e, seqE_e, ↓seqE_r, seqE_r, ↓blkE_n, blkE_n, ↓blkE_e, blkE_e, ↓blkE_r, blkE_r, ↓retK_n, retK_n, ↓retK_r, retK_r, ↓aCall_fn, aCall_fn, ↓bnd_s, bnd_s, ↓bnd2_s, bnd2_s, ↓onB_t, onB_t, ↓onB_f, onB_f, ↓onG_tt, onG_tt, ↓onG_tf, onG_tf, ↓onG_ft, onG_ft, ↓onG_ff, onG_ff, ↓onG_s, onG_s, ↓onT_t, onT_t, ↓aPick_t, aPick_t, ↓aPick_f, aPick_f, decide_true, decide_false, st_tmp, results1, results2, List.lookup_cons, List.lookup_nil, Nat.reduceBEq, Bool.false_eq_true, ↓reduceIte, BEq.rfl, Nat.reduceLT, Option.getD_some, Option.getD_none, ↓r15_0, r15_0, ↓r15_1, r15_1, ↓r15_2, r15_2, ↓r15_3, r15_3, ↓r15_4, r15_4, ↓r15_5, r15_5, ↓r15_6, r15_6, r1, ext0, ext1, un_not, Option.isSome_some, Bool.not_true, lit30 _ bs.fits, app30, ap, bs.len, sk, bin_add, wr]

def Dk.scan (d : Dk) (a e gen : Int) : List (List UInt8) × Int := scanOf d.now e gen (d.lasts.length + 1) a

theorem scanOf_neg {now : List (List UInt8)} {e gen a : Int} (h : a < 0) (f : Nat) : scanOf now e gen f a = ([], a) := by
  cases f with
  | zero => rfl
  | succ f => exact scanOf_none (oneOf_out (by omega))

theorem scan_ok {S : Obs} {p r : Nat} {h : Heap} {d : Dk} (D : Dsk S h p r d) (hl : d.loose.length < 2 ^ 30) (a e gen : Int) (k : Nat) (hk : d.loose.length + 9001 < k) :
    ∃ x h', exFn C0 E0 (k + 1) false 15 [dp p, .int .i64 a, .int .i64 e, .int .i64 gen] h = some (.tuple [x, .int .i64 (d.scan a e gen).2], h') ∧
      ApR (From h.length) h' x (d.scan a e gen).1 ∧ Keep (From h.length) h h' := by
  obtain ⟨k, rfl⟩ : ∃ j, k = j + 1 := ⟨k - 1, by omega⟩
  have hfew := D.few
  have n0 : ([dp p, .int .i64 a, .int .i64 e, .int .i64 gen] ++ List.replicate (34 - [dp p, .int .i64 a, .int .i64 e, .int .i64 gen].length) AV.undef) = st 34 [(0, dp p), (1, .int .i64 a), (2, .int .i64 e), (3, .int .i64 gen)] := rfl
  obtain ⟨x, h', h1, h2, h3⟩ := scan_loop (U := From h.length) hl (S := fun i => i < h.length) (fun i hi hj => absurd hj (Nat.not_le.2 hi)) e gen k (by omega) (d.lasts.length + 1) (k + 1) a .nils h [] (by omega) (by omega) (by omega)
    (Up.fresh h) D.low ⟨[], .inl ⟨rfl, rfl⟩, .nil⟩ (by simp only [List.length_nil]; omega)
  refine ⟨x, h', exFn_of e15 ?_, h2, h3⟩
  rw [fnK, n0, s15]
  simp -implicitDefEqProofs only [↓runK_seq, runK_seq, ↓runK_cond, runK_cond, ↓runK_block, runK_block, ↓runK_loop, runK_loop, ↓runK_skip, runK_skip, ↓runK_ret, runK_ret, ↓runK_exit, runK_exit, ↓seqE_n, seqE_n, ↓seqE_e, seqE_e, ↓seqE_r, seqE_r, ↓blkE_n, blkE_n, ↓blkE_e, blkE_e, ↓blkE_r, blkE_r, ↓retK_n, retK_n, ↓retK_r, retK_r, ↓aCall_fn, aCall_fn, ↓bnd_s, bnd_s, ↓bnd2_s, bnd2_s, ↓onB_t, onB_t, ↓onB_f, onB_f, ↓onG_tt, onG_tt, ↓onG_tf, onG_tf, ↓onG_ft, onG_ft, ↓onG_ff, onG_ff, ↓onG_s, onG_s, ↓onT_t, onT_t, ↓aPick_t, aPick_t, ↓aPick_f, aPick_f, decide_true, decide_false, st_tmp, results1, results2, List.lookup_cons, List.lookup_nil, Nat.reduceBEq, Bool.false_eq_true, ↓reduceIte, BEq.rfl, Nat.reduceLT, Option.getD_some, Option.getD_none, ↓r15_0, r15_0, ↓r15_1, r15_1, ↓r15_2, r15_2, ↓r15_3, r15_3, ↓r15_4, r15_4, ↓r15_5, r15_5, ↓r15_6, r15_6]
  rw [h1]
  simp -implicitDefEqProofs only [↓runK_seq, runK_seq, ↓runK_cond, runK_cond, ↓runK_block, runK_block, ↓runK_loop, runK_loop, ↓runK_skip, runK_skip, ↓runK_ret, runK_ret, ↓runK_exit, runK_exit, ↓seqE_n, seqE_n, ↓seqE_e, seqE_e, ↓seqE_r, seqE_r, ↓blkE_n, blkE_n, ↓blkE_e, blkE_e, ↓blkE_r, blkE_r, ↓retK_n, retK_n, ↓retK_r, retK_r, ↓aCall_fn, aCall_fn, ↓bnd_s, bnd_s, ↓bnd2_s, bnd2_s, ↓onB_t, onB_t, ↓onB_f, onB_f, ↓onG_tt, onG_tt, ↓onG_tf, onG_tf, ↓onG_ft, onG_ft, ↓onG_ff, onG_ff, ↓onG_s, onG_s, ↓onT_t, onT_t, ↓aPick_t, aPick_t, ↓aPick_f, aPick_f, decide_true, decide_false, st_tmp, results1, results2, List.lookup_cons, List.lookup_nil, Nat.reduceBEq, Bool.false_eq_true, ↓reduceIte, BEq.rfl, Nat.reduceLT, Option.getD_some, Option.getD_none, Dk.scan]
end Go.Ax

/- What the regions of some functions hand on. Printed by a program of mine (gen.py). -/
set_option linter.unusedVariables false
namespace Go.Ax
open Go Go.Proofs
/-! ### interregnum/interregnumref01.Same -/
noncomputable def O22 (i : Nat) : Array Oper := opsOf i (bodyOf Try.f22)
noncomputable def B22_1 : Code := (.seq (.seq (.region 4 (O22 4) false) (.cond (Go.Operand.tmp 14) .skip (.exit 0))) (.seq (.block 1 (.seq (.region 6 (O22 6) true) (.cond (Go.Operand.tmp 25) (.seq (.region 7 (O22 7) false) .ret) .skip))) (.region 5 (O22 5) false)))
theorem s22 : bodyOf Try.f22 = (.seq (.region 0 (O22 0) false) (.seq (.seq (.region 1 (O22 1) false) (.cond (Go.Operand.tmp 10) (.seq (.region 2 (O22 2) false) .ret) .skip)) (.seq (.seq (.region 3 (O22 3) false) (.block 0 (.loop B22_1))) (.seq (.region 8 (O22 8) false) .ret)))) := by kernel_rfl
theorem e22 : E0 22 = some ⟨26, [4], bodyOf Try.f22⟩ := by kernel_rfl
theorem r22_0 {β : Type} (call : CallF) (md : Bool) (n : Nat) (k : Ex → List AV → Heap → Option β) (x0 x1 : AV) (h : Heap) :
    runK C0 call md 22 n (.region 0 (O22 0) false) k (st 26 [(0, x0), (1, x1)]) h =
    k .normal (st 26 [(0, x0), (1, x1)]) h
  := by kernel_rfl
theorem r22_1 {β : Type} (call : CallF) (md : Bool) (n : Nat) (k : Ex → List AV → Heap → Option β) (x0 x1 : AV) (h : Heap) :
    runK C0 call md 22 n (.region 1 (O22 1) false) k (st 26 [(0, x0), (1, x1)]) h =
    bnd (aLen tab 22 x0) fun v1 =>
    bnd (aLen tab 22 x1) fun v2 =>
    bnd (aBinC tab .neq 3 v1 v2 false) fun v3 =>
    k .normal (st 26 [(0, x0), (1, x1), (10, v3)]) h
  := by kernel_rfl
theorem r22_2 {β : Type} (call : CallF) (md : Bool) (n : Nat) (k : Ex → List AV → Heap → Option β) (x0 x1 x10 : AV) (h : Heap) :
    runK C0 call md 22 n (.region 2 (O22 2) false) k (st 26 [(0, x0), (1, x1), (10, x10)]) h =
    k .normal (st 26 [(4, (.bool false))]) h
  := by kernel_rfl
theorem r22_3 {β : Type} (call : CallF) (md : Bool) (n : Nat) (k : Ex → List AV → Heap → Option β) (x0 x1 x10 : AV) (h : Heap) :
    runK C0 call md 22 n (.region 3 (O22 3) false) k (st 26 [(0, x0), (1, x1), (10, x10)]) h =
    k .normal (st 26 [(0, x0), (1, x1), (5, (.int .i64 0))]) h
  := by kernel_rfl
theorem r22_4 {β : Type} (call : CallF) (md : Bool) (n : Nat) (k : Ex → List AV → Heap → Option β) (x0 x1 x5 : AV) (h : Heap) :
    runK C0 call md 22 n (.region 4 (O22 4) false) k (st 26 [(0, x0), (1, x1), (5, x5)]) h =
    bnd (aLen tab 22 x0) fun v1 =>
    bnd (aBinC tab .lss 3 x5 v1 false) fun v2 =>
    k .normal (st 26 [(0, x0), (1, x1), (5, x5), (14, v2)]) h
  := by kernel_rfl
theorem r22_5 {β : Type} (call : CallF) (md : Bool) (n : Nat) (k : Ex → List AV → Heap → Option β) (x0 x1 x5 x25 : AV) (h : Heap) :
    runK C0 call md 22 n (.region 5 (O22 5) false) k (st 26 [(0, x0), (1, x1), (5, x5), (25, x25)]) h =
    bnd (aBinC tab .add 3 x5 (.int .i64 1) true) fun v1 =>
    k .normal (st 26 [(0, x0), (1, x1), (5, v1)]) h
  := by kernel_rfl
theorem r22_6 {β : Type} (call : CallF) (md : Bool) (n : Nat) (k : Ex → List AV → Heap → Option β) (x0 x1 x5 x14 : AV) (h : Heap) :
    runK C0 call md 22 n (.region 6 (O22 6) true) k (st 26 [(0, x0), (1, x1), (5, x5), (14, x14)]) h =
    bnd (aIndexAddr tab 22 x0 x5) fun v1 =>
    bnd (aLoad tab 5 v1 h) fun v2 =>
    bnd (aIndexAddr tab 22 x1 x5) fun v3 =>
    bnd (aLoad tab 5 v3 h) fun v4 =>
    bnd (aBinC tab .neq 5 v2 v4 false) fun v5 =>
    k .normal (st 26 [(0, x0), (1, x1), (5, x5), (25, v5)]) h
  := by kernel_rfl
theorem r22_7 {β : Type} (call : CallF) (md : Bool) (n : Nat) (k : Ex → List AV → Heap → Option β) (x0 x1 x5 x25 : AV) (h : Heap) :
    runK C0 call md 22 n (.region 7 (O22 7) false) k (st 26 [(0, x0), (1, x1), (5, x5), (25, x25)]) h =
    k .normal (st 26 [(4, (.bool false))]) h
  := by kernel_rfl
theorem r22_8 {β : Type} (call : CallF) (md : Bool) (n : Nat) (k : Ex → List AV → Heap → Option β) (x0 x1 x5 x14 : AV) (h : Heap) :
    runK C0 call md 22 n (.region 8 (O22 8) false) k (st 26 [(0, x0), (1, x1), (5, x5), (14, x14)]) h =
    k .normal (st 26 [(4, (.bool true))]) h
  := by kernel_rfl
end Go.Ax

/- What the regions of some functions hand on. Printed by a program of mine (gen.py). -/
set_option linter.unusedVariables false
namespace Go.Ax
open Go Go.Proofs
/-! ### interregnum/interregnumref01.Rows -/
noncomputable def O16 (i : Nat) : Array Oper := opsOf i (bodyOf Try.f16)
noncomputable def B16_1 : Code := (.seq (.seq (.region 4 (O16 4) false) (.cond (Go.Operand.tmp 14) .skip (.exit 0))) (.seq (.block 1 (.seq (.region 6 (O16 6) true) (.cond (Go.Operand.tmp 26) (.seq (.region 7 (O16 7) false) .ret) .skip))) (.region 5 (O16 5) false)))
theorem s16 : bodyOf Try.f16 = (.seq (.region 0 (O16 0) false) (.seq (.seq (.region 1 (O16 1) false) (.cond (Go.Operand.tmp 10) (.seq (.region 2 (O16 2) false) .ret) .skip)) (.seq (.seq (.region 3 (O16 3) false) (.block 0 (.loop B16_1))) (.seq (.region 8 (O16 8) false) .ret)))) := by kernel_rfl
theorem e16 : E0 16 = some ⟨27, [4], bodyOf Try.f16⟩ := by kernel_rfl
theorem r16_0 {β : Type} (call : CallF) (md : Bool) (n : Nat) (k : Ex → List AV → Heap → Option β) (x0 x1 : AV) (h : Heap) :
    runK C0 call md 16 n (.region 0 (O16 0) false) k (st 27 [(0, x0), (1, x1)]) h =
    k .normal (st 27 [(0, x0), (1, x1)]) h
  := by kernel_rfl
theorem r16_1 {β : Type} (call : CallF) (md : Bool) (n : Nat) (k : Ex → List AV → Heap → Option β) (x0 x1 : AV) (h : Heap) :
    runK C0 call md 16 n (.region 1 (O16 1) false) k (st 27 [(0, x0), (1, x1)]) h =
    bnd (aLen tab 30 x0) fun v1 =>
    bnd (aLen tab 30 x1) fun v2 =>
    bnd (aBinC tab .neq 3 v1 v2 false) fun v3 =>
    k .normal (st 27 [(0, x0), (1, x1), (10, v3)]) h
  := by kernel_rfl
theorem r16_2 {β : Type} (call : CallF) (md : Bool) (n : Nat) (k : Ex → List AV → Heap → Option β) (x0 x1 x10 : AV) (h : Heap) :
    runK C0 call md 16 n (.region 2 (O16 2) false) k (st 27 [(0, x0), (1, x1), (10, x10)]) h =
    k .normal (st 27 [(4, (.bool false))]) h
  := by kernel_rfl
theorem r16_3 {β : Type} (call : CallF) (md : Bool) (n : Nat) (k : Ex → List AV → Heap → Option β) (x0 x1 x10 : AV) (h : Heap) :
    runK C0 call md 16 n (.region 3 (O16 3) false) k (st 27 [(0, x0), (1, x1), (10, x10)]) h =
    k .normal (st 27 [(0, x0), (1, x1), (5, (.int .i64 0))]) h
  := by kernel_rfl
theorem r16_4 {β : Type} (call : CallF) (md : Bool) (n : Nat) (k : Ex → List AV → Heap → Option β) (x0 x1 x5 : AV) (h : Heap) :
    runK C0 call md 16 n (.region 4 (O16 4) false) k (st 27 [(0, x0), (1, x1), (5, x5)]) h =
    bnd (aLen tab 30 x0) fun v1 =>
    bnd (aBinC tab .lss 3 x5 v1 false) fun v2 =>
    k .normal (st 27 [(0, x0), (1, x1), (5, x5), (14, v2)]) h
  := by kernel_rfl
theorem r16_5 {β : Type} (call : CallF) (md : Bool) (n : Nat) (k : Ex → List AV → Heap → Option β) (x0 x1 x5 x26 : AV) (h : Heap) :
    runK C0 call md 16 n (.region 5 (O16 5) false) k (st 27 [(0, x0), (1, x1), (5, x5), (26, x26)]) h =
    bnd (aBinC tab .add 3 x5 (.int .i64 1) true) fun v1 =>
    k .normal (st 27 [(0, x0), (1, x1), (5, v1)]) h
  := by kernel_rfl
theorem r16_6 {β : Type} (call : CallF) (md : Bool) (n : Nat) (k : Ex → List AV → Heap → Option β) (x0 x1 x5 x14 : AV) (h : Heap) :
    runK C0 call md 16 n (.region 6 (O16 6) true) k (st 27 [(0, x0), (1, x1), (5, x5), (14, x14)]) h =
    bnd (aIndexAddr tab 30 x0 x5) fun v1 =>
    bnd (aLoad tab 22 v1 h) fun v2 =>
    bnd (aIndexAddr tab 30 x1 x5) fun v3 =>
    bnd (aLoad tab 22 v3 h) fun v4 =>
    bnd2 (aCall call md (.fn (.func 22) []) [v2, v4] h) fun v5 h6 =>
    bnd (aUn .not v5) fun v7 =>
    k .normal (st 27 [(0, x0), (1, x1), (5, x5), (26, v7)]) h6
  := by kernel_rfl
theorem r16_7 {β : Type} (call : CallF) (md : Bool) (n : Nat) (k : Ex → List AV → Heap → Option β) (x0 x1 x5 x26 : AV) (h : Heap) :
    runK C0 call md 16 n (.region 7 (O16 7) false) k (st 27 [(0, x0), (1, x1), (5, x5), (26, x26)]) h =
    k .normal (st 27 [(4, (.bool false))]) h
  := by kernel_rfl
theorem r16_8 {β : Type} (call : CallF) (md : Bool) (n : Nat) (k : Ex → List AV → Heap → Option β) (x0 x1 x5 x14 : AV) (h : Heap) :
    runK C0 call md 16 n (.region 8 (O16 8) false) k (st 27 [(0, x0), (1, x1), (5, x5), (14, x14)]) h =
    k .normal (st 27 [(4, (.bool true))]) h
  := by kernel_rfl
end Go.Ax

/- The reference's Same and Rows: what they compute. -/
namespace Go.Ax
open Go Go.Proofs

theorem u8_neq (T : Tab) (t : Ty) (a b : UInt8) (c : Bool) : aBinC T .neq t (U8 a) (U8 b) c = some (.bool (decide (a ≠ b))) := by
  simp only [U8, bin_neq, ne_eq, Int.natCast_inj, UInt8.toNat_inj]

theorem drop_get {α : Type} {l : List α} {i : Nat} {a : α} (h : l[i]? = some a) : l.drop i = a :: l.drop (i + 1) := by
  obtain ⟨hl, rfl⟩ := List.getElem?_eq_some_iff.1 h
  exact List.drop_eq_getElem_cons hl

theorem same_loop {x y : AV} {l m : List UInt8} (hx : Bs x l) (hy : Bs y m) (hlm : l.length = m.length) (hl : l.length < 2 ^ 62) (call : CallF) (md : Bool) (N : Nat) (h : Heap) (K : Ex → List AV → Heap → Option (AV × Heap)) :
    ∀ (c i n : Nat), i + c = l.length → c < n →
    loopK (fun next => runK C0 call md 22 N B22_1 (seqE next K)) n (st 26 [(0, x), (1, y), (5, .int .i64 i)]) h =
      if l.drop i = m.drop i then K (.exit 0) (st 26 [(0, x), (1, y), (5, .int .i64 l.length), (14, .bool false)]) h else K .ret (st 26 [(4, .bool false)]) h := by
  intro c
  induction c with
  | zero =>
    intro i n hi hn
    obtain ⟨n, rfl⟩ : ∃ j, n = j + 1 := ⟨n - 1, by omega⟩
    obtain rfl : i = l.length := by omega
    rw [if_pos (by rw [List.drop_length, hlm, List.drop_length]), loopK_succ]
    generalize loopK (_ : (List AV → Heap → Option (AV × Heap)) → List AV → Heap → Option (AV × Heap)) n = Lp
    have e : decide (((l.length : Nat) : Int) < (l.length : Nat)) = false := decide_eq_false (by omega)
    simp -implicitDefEqProofs only [B22_1, ↓runK_seq, runK_seq, ↓runK_cond, runK_cond, ↓runK_block, runK_block, ↓runK_loop, runK_loop, ↓runK_skip, runK_skip, ↓runK_ret, runK_ret, ↓runK_exit, runK_exit, ↓seqE_n, seqE_n, ↓seqE_e, seqE_e, ↓seqE_r, seqE_r, ↓blkE_n, blkE_n, ↓blkE_e, blkE_e, ↓blkE_r, blkE_r, ↓retK_n, retK_n, ↓retK_r, retK_r, ↓aCall_fn, aCall_fn, ↓bnd_s, bnd_s, ↓bnd2_s, bnd2_s, ↓onB_t, onB_t, ↓onB_f, onB_f, ↓onG_tt, onG_tt, ↓onG_tf, onG_tf, ↓onG_ft, onG_ft, ↓onG_ff, onG_ff, ↓onG_s, onG_s, ↓onT_t, onT_t, ↓aPick_t, aPick_t, ↓aPick_f, aPick_f, decide_true, decide_false, st_tmp, results1, results2, List.lookup_cons, List.lookup_nil, Nat.reduceBEq, Bool.false_eq_true, ↓reduceIte, BEq.rfl, Nat.reduceLT, Option.getD_some, Option.getD_none, ↓r22_0, r22_0, ↓r22_1, r22_1, ↓r22_2, r22_2, ↓r22_3, r22_3, ↓r22_4, r22_4, ↓r22_5, r22_5, ↓r22_6, r22_6, ↓r22_7, r22_7, ↓r22_8, r22_8, hx.len, bin_lss, e]
  | succ c ih =>
    intro i n hi hn
    obtain ⟨n, rfl⟩ : ∃ j, n = j + 1 := ⟨n - 1, by omega⟩
    have e : decide (((i : Nat) : Int) < (l.length : Nat)) = true := decide_eq_true (by omega)
    have wr : IntKind.i64.wrap ((i : Int) + 1) = ((i + 1 : Nat) : Int) := by rw [wrap_i64] <;> omega
    obtain ⟨a, ha⟩ : ∃ a, l[i]? = some a := ⟨l[i]'(by omega), List.getElem?_eq_getElem _⟩
    obtain ⟨b, hb⟩ : ∃ b, m[i]? = some b := ⟨m[i]'(by omega), List.getElem?_eq_getElem _⟩
    have ih' := ih (i + 1) n (by omega) (by omega)
    rw [drop_get ha, drop_get hb, loopK_succ]
    generalize loopK (_ : (List AV → Heap → Option (AV × Heap)) → List AV → Heap → Option (AV × Heap)) n = Lp at *
    by_cases hab : a = b
    · have e1 : decide (a ≠ b) = false := decide_eq_false fun h => h hab
      simp only [hab, List.cons.injEq, true_and]
      rw [← ih']
      simp -implicitDefEqProofs only [B22_1, ↓runK_seq, runK_seq, ↓runK_cond, runK_cond, ↓runK_block, runK_block, ↓runK_loop, runK_loop, ↓runK_skip, runK_skip, ↓runK_ret, runK_ret, ↓runK_exit, runK_exit, ↓seqE_n, seqE_n, ↓seqE_e, seqE_e, ↓seqE_r, seqE_r, ↓blkE_n, blkE_n, ↓blkE_e, blkE_e, ↓blkE_r, blkE_r, ↓retK_n, retK_n, ↓retK_r, retK_r, ↓aCall_fn, aCall_fn, ↓bnd_s, bnd_s, ↓bnd2_s, bnd2_s, ↓onB_t, onB_t, ↓onB_f, onB_f, ↓onG_tt, onG_tt, ↓onG_tf, onG_tf, ↓onG_ft, onG_ft, ↓onG_ff, onG_ff, ↓onG_s, onG_s, ↓onT_t, onT_t, ↓aPick_t, aPick_t, ↓aPick_f, aPick_f, decide_true, decide_false, st_tmp, results1, results2, List.lookup_cons, List.lookup_nil, Nat.reduceBEq, Bool.false_eq_true, ↓reduceIte, BEq.rfl, Nat.reduceLT, Option.getD_some, Option.getD_none, ↓r22_0, r22_0, ↓r22_1, r22_1, ↓r22_2, r22_2, ↓r22_3, r22_3, ↓r22_4, r22_4, ↓r22_5, r22_5, ↓r22_6, r22_6, ↓r22_7, r22_7, ↓r22_8, r22_8, hx.len, bin_lss, e, hx.idx ha, hy.idx hb, load5, u8_neq, e1, bin_add, wr]
    · have e1 : decide (a ≠ b) = true := decide_eq_true hab
      rw [if_neg (by simp [hab])]
      simp -implicitDefEqProofs only [B22_1, ↓runK_seq, runK_seq, ↓runK_cond, runK_cond, ↓runK_block, runK_block, ↓runK_loop, runK_loop, ↓runK_skip, runK_skip, ↓runK_ret, runK_ret, ↓runK_exit, runK_exit, ↓seqE_n, seqE_n, ↓seqE_e, seqE_e, ↓seqE_r, seqE_r, ↓blkE_n, blkE_n, ↓blkE_e, blkE_e, ↓blkE_r, blkE_r, ↓retK_n, retK_n, ↓retK_r, retK_r, ↓aCall_fn, aCall_fn, ↓bnd_s, bnd_s, ↓bnd2_s, bnd2_s, ↓onB_t, onB_t, ↓onB_f, onB_f, ↓onG_tt, onG_tt, ↓onG_tf, onG_tf, ↓onG_ft, onG_ft, ↓onG_ff, onG_ff, ↓onG_s, onG_s, ↓onT_t, onT_t, ↓aPick_t, aPick_t, ↓aPick_f, aPick_f, decide_true, decide_false, st_tmp, results1, results2, List.lookup_cons, List.lookup_nil, Nat.reduceBEq, Bool.false_eq_true, ↓reduceIte, BEq.rfl, Nat.reduceLT, Option.getD_some, Option.getD_none, ↓r22_0, r22_0, ↓r22_1, r22_1, ↓r22_2, r22_2, ↓r22_3, r22_3, ↓r22_4, r22_4, ↓r22_5, r22_5, ↓r22_6, r22_6, ↓r22_7, r22_7, ↓r22_8, r22_8, hx.len, bin_lss, e, hx.idx ha, hy.idx hb, load5, u8_neq, e1]

theorem same_ok {x y : AV} {l m : List UInt8} (hx : Bs x l) (hy : Bs y m) (hl : l.length < 2 ^ 62) (md : Bool) (h : Heap) (k : Nat) (hk : l.length + 1 < k) : exFn C0 E0 k md 22 [x, y] h = some (.bool (decide (l = m)), h) := by
  obtain ⟨k, rfl⟩ : ∃ j, k = j + 1 := ⟨k - 1, by omega⟩
  have n0 : ([x, y] ++ List.replicate (26 - [x, y].length) AV.undef) = st 26 [(0, x), (1, y)] := rfl
  refine exFn_of e22 ?_
  rw [fnK, n0, s22]
  by_cases hlm : l.length = m.length
  · have e : decide (((l.length : Nat) : Int) ≠ (m.length : Nat)) = false := decide_eq_false (by omega)
    simp -implicitDefEqProofs only [↓runK_seq, runK_seq, ↓runK_cond, runK_cond, ↓runK_block, runK_block, ↓runK_loop, runK_loop, ↓runK_skip, runK_skip, ↓runK_ret, runK_ret, ↓runK_exit, runK_exit, ↓seqE_n, seqE_n, ↓seqE_e, seqE_e, ↓seqE_r, seqE_r, ↓blkE_n, blkE_n, ↓blkE_e, blkE_e, ↓blkE_r, blkE_r, ↓retK_n, retK_n, ↓retK_r, retK_r, ↓aCall_fn, aCall_fn, ↓bnd_s, bnd_s, ↓bnd2_s, bnd2_s, ↓onB_t, onB_t, ↓onB_f, onB_f, ↓onG_tt, onG_tt, ↓onG_tf, onG_tf, ↓onG_ft, onG_ft, ↓onG_ff, onG_ff, ↓onG_s, onG_s, ↓onT_t, onT_t, ↓aPick_t, aPick_t, ↓aPick_f, aPick_f, decide_true, decide_false, st_tmp, results1, results2, List.lookup_cons, List.lookup_nil, Nat.reduceBEq, Bool.false_eq_true, ↓reduceIte, BEq.rfl, Nat.reduceLT, Option.getD_some, Option.getD_none, ↓r22_0, r22_0, ↓r22_1, r22_1, ↓r22_2, r22_2, ↓r22_3, r22_3, ↓r22_4, r22_4, ↓r22_5, r22_5, ↓r22_6, r22_6, ↓r22_7, r22_7, ↓r22_8, r22_8, hx.len, hy.len, bin_neq, e]
    rw [show AV.int .i64 0 = .int .i64 ((0 : Nat) : Int) from rfl, same_loop hx hy hlm hl _ md k h _ l.length 0 k (by omega) (by omega), List.drop_zero, List.drop_zero]
    by_cases h2 : l = m
    · rw [if_pos h2, decide_eq_true h2]
      simp -implicitDefEqProofs only [↓runK_seq, runK_seq, ↓runK_cond, runK_cond, ↓runK_block, runK_block, ↓runK_loop, runK_loop, ↓runK_skip, runK_skip, ↓runK_ret, runK_ret, ↓runK_exit, runK_exit, ↓seqE_n, seqE_n, ↓seqE_e, seqE_e, ↓seqE_r, seqE_r, ↓blkE_n, blkE_n, ↓blkE_e, blkE_e, ↓blkE_r, blkE_r, ↓retK_n, retK_n, ↓retK_r, retK_r, ↓aCall_fn, aCall_fn, ↓bnd_s, bnd_s, ↓bnd2_s, bnd2_s, ↓onB_t, onB_t, ↓onB_f, onB_f, ↓onG_tt, onG_tt, ↓onG_tf, onG_tf, ↓onG_ft, onG_ft, ↓onG_ff, onG_ff, ↓onG_s, onG_s, ↓onT_t, onT_t, ↓aPick_t, aPick_t, ↓aPick_f, aPick_f, decide_true, decide_false, st_tmp, results1, results2, List.lookup_cons, List.lookup_nil, Nat.reduceBEq, Bool.false_eq_true, ↓reduceIte, BEq.rfl, Nat.reduceLT, Option.getD_some, Option.getD_none, ↓r22_0, r22_0, ↓r22_1, r22_1, ↓r22_2, r22_2, ↓r22_3, r22_3, ↓r22_4, r22_4, ↓r22_5, r22_5, ↓r22_6, r22_6, ↓r22_7, r22_7, ↓r22_8, r22_8]
    · rw [if_neg h2, decide_eq_false h2]
      simp -implicitDefEqProofs only [↓runK_seq, runK_seq, ↓runK_cond, runK_cond, ↓runK_block, runK_block, ↓runK_loop, runK_loop, ↓runK_skip, runK_skip, ↓runK_ret, runK_ret, ↓runK_exit, runK_exit, ↓seqE_n, seqE_n, ↓seqE_e, seqE_e, ↓seqE_r, seqE_r, ↓blkE_n, blkE_n, ↓blkE_e, blkE_e, ↓blkE_r, blkE_r, ↓retK_n, retK_n, ↓retK_r, retK_r, ↓aCall_fn, aCall_fn, ↓bnd_s, bnd_s, ↓bnd2_s, bnd2_s, ↓onB_t, onB_t, ↓onB_f, onB_f, ↓onG_tt, onG_tt, ↓onG_tf, onG_tf, ↓onG_ft, onG_ft, ↓onG_ff, onG_ff, ↓onG_s, onG_s, ↓onT_t, onT_t, ↓aPick_t, aPick_t, ↓aPick_f, aPick_f, decide_true, decide_false, st_tmp, results1, results2, List.lookup_cons, List.lookup_nil, Nat.reduceBEq, Bool.false_eq_true, ↓reduceIte, BEq.rfl, Nat.reduceLT, Option.getD_some, Option.getD_none, ↓r22_0, r22_0, ↓r22_1, r22_1, ↓r22_2, r22_2, ↓r22_3, r22_3, ↓r22_4, r22_4, ↓r22_5, r22_5, ↓r22_6, r22_6, ↓r22_7, r22_7, ↓r22_8, r22_8]
  · have e : decide (((l.length : Nat) : Int) ≠ (m.length : Nat)) = true := decide_eq_true (by omega)
    rw [decide_eq_false (show ¬ l = m from fun e => hlm (by rw [e]))]
    simp -implicitDefEqProofs only [↓runK_seq, runK_seq, ↓runK_cond, runK_cond, ↓runK_block, runK_block, ↓runK_loop, runK_loop, ↓runK_skip, runK_skip, ↓runK_ret, runK_ret, ↓runK_exit, runK_exit, ↓seqE_n, seqE_n, ↓seqE_e, seqE_e, ↓seqE_r, seqE_r, ↓blkE_n, blkE_n, ↓blkE_e, blkE_e, ↓blkE_r, blkE_r, ↓retK_n, retK_n, ↓retK_r, retK_r, ↓aCall_fn, aCall_fn, ↓bnd_s, bnd_s, ↓bnd2_s, bnd2_s, ↓onB_t, onB_t, ↓onB_f, onB_f, ↓onG_tt, onG_tt, ↓onG_tf, onG_tf, ↓onG_ft, onG_ft, ↓onG_ff, onG_ff, ↓onG_s, onG_s, ↓onT_t, onT_t, ↓aPick_t, aPick_t, ↓aPick_f, aPick_f, decide_true, decide_false, st_tmp, results1, results2, List.lookup_cons, List.lookup_nil, Nat.reduceBEq, Bool.false_eq_true, ↓reduceIte, BEq.rfl, Nat.reduceLT, Option.getD_some, Option.getD_none, ↓r22_0, r22_0, ↓r22_1, r22_1, ↓r22_2, r22_2, ↓r22_3, r22_3, ↓r22_4, r22_4, ↓r22_5, r22_5, ↓r22_6, r22_6, ↓r22_7, r22_7, ↓r22_8, r22_8, hx.len, hy.len, bin_neq, e]

/-- A slice of byte slices. -/
def Rw (x : AV) (ls : List (List UInt8)) : Prop := (x = .nils ∧ ls = []) ∨ ∃ vs k, x = .vsl 22 vs k ∧ BsL vs ls
theorem ApR.rw {S : Obs} {h : Heap} {x : AV} {ls : List (List UInt8)} (a : ApR S h x ls) : Rw x ls := by
  obtain ⟨vs, ⟨rfl, rfl⟩ | ⟨k, rfl, -⟩, hf⟩ := a
  · cases hf; exact .inl ⟨rfl, rfl⟩
  · exact .inr ⟨vs, k, rfl, hf⟩
theorem Rw.len {x : AV} {ls : List (List UInt8)} (hx : Rw x ls) : aLen tab 30 x = some (.int .i64 ls.length) := by
  rcases hx with ⟨rfl, rfl⟩ | ⟨vs, k, rfl, hf⟩
  · exact len_nils30
  · rw [len30, hf.length]
theorem BsL.get : ∀ {vs : List AV} {ls : List (List UInt8)}, BsL vs ls → ∀ {i : Nat} {l : List UInt8}, ls[i]? = some l → ∃ v, vs[i]? = some v ∧ Bs v l
  | _, _, .nil, i, l, h => by simp at h
  | _, _, .cons a t, 0, l, h => by simp at h; subst h; exact ⟨_, rfl, a⟩
  | _, _, .cons a t, i + 1, l, h => by simpa using t.get (i := i) (by simpa using h)
theorem Rw.idx {x : AV} {ls : List (List UInt8)} (hx : Rw x ls) {i : Nat} {l : List UInt8} (hi : ls[i]? = some l) : ∃ v, aIndexAddr tab 30 x (.int .i64 i) = some (.vptr 22 v) ∧ Bs v l := by
  rcases hx with ⟨rfl, rfl⟩ | ⟨vs, k, rfl, hf⟩
  · simp at hi
  · obtain ⟨v, hv, hb⟩ := hf.get hi
    exact ⟨v, by rw [idx30, hv]; rfl, hb⟩

theorem rows_loop {x y : AV} {l m : List (List UInt8)} (hx : Rw x l) (hy : Rw y m) (hlm : l.length = m.length) (hl : l.length < 2 ^ 62) (B : Nat) (hB : ∀ b ∈ l, b.length < B) (hB2 : B < 2 ^ 62) (N : Nat) (hN : B + 1 < N) (md : Bool) (h : Heap) (K : Ex → List AV → Heap → Option (AV × Heap)) :
    ∀ (c i n : Nat), i + c = l.length → c < n →
    loopK (fun next => runK C0 (exFn C0 E0 N) md 16 N B16_1 (seqE next K)) n (st 27 [(0, x), (1, y), (5, .int .i64 i)]) h =
      if l.drop i = m.drop i then K (.exit 0) (st 27 [(0, x), (1, y), (5, .int .i64 l.length), (14, .bool false)]) h else K .ret (st 27 [(4, .bool false)]) h := by
  intro c
  induction c with
  | zero =>
    intro i n hi hn
    obtain ⟨n, rfl⟩ : ∃ j, n = j + 1 := ⟨n - 1, by omega⟩
    obtain rfl : i = l.length := by omega
    rw [if_pos (by rw [List.drop_length, hlm, List.drop_length]), loopK_succ]
    generalize loopK (_ : (List AV → Heap → Option (AV × Heap)) → List AV → Heap → Option (AV × Heap)) n = Lp
    have e : decide (((l.length : Nat) : Int) < (l.length : Nat)) = false := decide_eq_false (by omega)
    simp -implicitDefEqProofs only [B16_1, ↓runK_seq, runK_seq, ↓runK_cond, runK_cond, ↓runK_block, runK_block, ↓runK_loop, runK_loop, ↓runK_skip, runK_skip, ↓runK_ret, runK_ret, ↓runK_exit, runK_exit, ↓seqE_n, seqE_n, ↓seqE_e, seqE_e, ↓seqE_r, seqE_r, ↓blkE_n, blkE_n, ↓blkE_e, blkE_e, ↓blkE_r, blkE_r, ↓retK_n, retK_n, ↓retK_r, retK_r, ↓aCall_fn, aCall_fn, ↓bnd_s, bnd_s, ↓bnd2_s, bnd2_s, ↓onB_t, onB_t, ↓onB_f, onB_f, ↓onG_tt, onG_tt, ↓onG_tf, onG_tf, ↓onG_ft, onG_ft, ↓onG_ff, onG_ff, ↓onG_s, onG_s, ↓onT_t, onT_t, ↓aPick_t, aPick_t, ↓aPick_f, aPick_f, decide_true, decide_false, st_tmp, results1, results2, List.lookup_cons, List.lookup_nil, Nat.reduceBEq, Bool.false_eq_true, ↓reduceIte, BEq.rfl, Nat.reduceLT, Option.getD_some, Option.getD_none, ↓r16_0, r16_0, ↓r16_1, r16_1, ↓r16_2, r16_2, ↓r16_3, r16_3, ↓r16_4, r16_4, ↓r16_5, r16_5, ↓r16_6, r16_6, ↓r16_7, r16_7, ↓r16_8, r16_8, hx.len, bin_lss, e]
  | succ c ih =>
    intro i n hi hn
    obtain ⟨n, rfl⟩ : ∃ j, n = j + 1 := ⟨n - 1, by omega⟩
    have e : decide (((i : Nat) : Int) < (l.length : Nat)) = true := decide_eq_true (by omega)
    have wr : IntKind.i64.wrap ((i : Int) + 1) = ((i + 1 : Nat) : Int) := by rw [wrap_i64] <;> omega
    obtain ⟨a, ha⟩ : ∃ a, l[i]? = some a := ⟨l[i]'(by omega), List.getElem?_eq_getElem _⟩
    obtain ⟨b, hb⟩ : ∃ b, m[i]? = some b := ⟨m[i]'(by omega), List.getElem?_eq_getElem _⟩
    obtain ⟨u, hu, bu⟩ := hx.idx ha
    obtain ⟨v, hv, bv⟩ := hy.idx hb
    have haB := hB a (List.mem_of_getElem? ha)
    have sm := same_ok bu bv (by omega) md h N (by omega)
    have ih' := ih (i + 1) n (by omega) (by omega)
    rw [drop_get ha, drop_get hb, loopK_succ]
    generalize loopK (_ : (List AV → Heap → Option (AV × Heap)) → List AV → Heap → Option (AV × Heap)) n = Lp at *
    by_cases hab : a = b
    · have e1 : decide (a = b) = true := decide_eq_true hab
      rw [e1] at sm
      simp only [hab, List.cons.injEq, true_and]
      rw [← ih']
      simp -implicitDefEqProofs only [B16_1, ↓runK_seq, runK_seq, ↓runK_cond, runK_cond, ↓runK_block, runK_block, ↓runK_loop, runK_loop, ↓runK_skip, runK_skip, ↓runK_ret, runK_ret, ↓runK_exit, runK_exit, ↓seqE_n, seqE_n, ↓seqE_e, seqE_e, ↓seqE_r, seqE_r, ↓blkE_n, blkE_n, ↓blkE_e, blkE_e, ↓blkE_r, blkE_r, ↓retK_n, retK_n, ↓retK_r, retK_r, ↓aCall_fn, aCall_fn, ↓bnd_s, bnd_s, ↓bnd2_s, bnd2_s, ↓onB_t, onB_t, ↓onB_f, onB_f, ↓onG_tt, onG_tt, ↓onG_tf, onG_tf, ↓onG_ft, onG_ft, ↓onG_ff, onG_ff, ↓onG_s, onG_s, ↓onT_t, onT_t, ↓aPick_t, aPick_t, ↓aPick_f, aPick_f, decide_true, decide_false, st_tmp, results1, results2, List.lookup_cons, List.lookup_nil, Nat.reduceBEq, Bool.false_eq_true, ↓reduceIte, BEq.rfl, Nat.reduceLT, Option.getD_some, Option.getD_none, ↓r16_0, r16_0, ↓r16_1, r16_1, ↓r16_2, r16_2, ↓r16_3, r16_3, ↓r16_4, r16_4, ↓r16_5, r16_5, ↓r16_6, r16_6, ↓r16_7, r16_7, ↓r16_8, r16_8, hx.len, bin_lss, e, hu, hv, load22, sm, un_not, Bool.not_true, bin_add, wr]
    · have e1 : decide (a = b) = false := decide_eq_false hab
      rw [e1] at sm
      rw [if_neg (by simp [hab])]
      simp -implicitDefEqProofs only [B16_1, ↓runK_seq, runK_seq, ↓runK_cond, runK_cond, ↓runK_block, runK_block, ↓runK_loop, runK_loop, ↓runK_skip, runK_skip, ↓runK_ret, runK_ret, ↓runK_exit, runK_exit, ↓seqE_n, seqE_n, ↓seqE_e, seqE_e, ↓seqE_r, seqE_r, ↓blkE_n, blkE_n, ↓blkE_e, blkE_e, ↓blkE_r, blkE_r, ↓retK_n, retK_n, ↓retK_r, retK_r, ↓aCall_fn, aCall_fn, ↓bnd_s, bnd_s, ↓bnd2_s, bnd2_s, ↓onB_t, onB_t, ↓onB_f, onB_f, ↓onG_tt, onG_tt, ↓onG_tf, onG_tf, ↓onG_ft, onG_ft, ↓onG_ff, onG_ff, ↓onG_s, onG_s, ↓onT_t, onT_t, ↓aPick_t, aPick_t, ↓aPick_f, aPick_f, decide_true, decide_false, st_tmp, results1, results2, List.lookup_cons, List.lookup_nil, Nat.reduceBEq, Bool.false_eq_true, ↓reduceIte, BEq.rfl, Nat.reduceLT, Option.getD_some, Option.getD_none, ↓r16_0, r16_0, ↓r16_1, r16_1, ↓r16_2, r16_2, ↓r16_3, r16_3, ↓r16_4, r16_4, ↓r16_5, r16_5, ↓r16_6, r16_6, ↓r16_7, r16_7, ↓r16_8, r16_8, hx.len, bin_lss, e, hu, hv, load22, sm, un_not, Bool.not_false]

theorem rows_ok {x y : AV} {l m : List (List UInt8)} (hx : Rw x l) (hy : Rw y m) (hl : l.length < 2 ^ 62) (B : Nat) (hB : ∀ b ∈ l, b.length < B) (hB2 : B < 2 ^ 62) (md : Bool) (h : Heap) (k : Nat) (hk : l.length + B + 3 < k) :
    exFn C0 E0 k md 16 [x, y] h = some (.bool (decide (l = m)), h) := by
  obtain ⟨k, rfl⟩ : ∃ j, k = j + 1 := ⟨k - 1, by omega⟩
  have n0 : ([x, y] ++ List.replicate (27 - [x, y].length) AV.undef) = st 27 [(0, x), (1, y)] := rfl
  refine exFn_of e16 ?_
  rw [fnK, n0, s16]
  by_cases hlm : l.length = m.length
  · have e : decide (((l.length : Nat) : Int) ≠ (m.length : Nat)) = false := decide_eq_false (by omega)
    simp -implicitDefEqProofs only [↓runK_seq, runK_seq, ↓runK_cond, runK_cond, ↓runK_block, runK_block, ↓runK_loop, runK_loop, ↓runK_skip, runK_skip, ↓runK_ret, runK_ret, ↓runK_exit, runK_exit, ↓seqE_n, seqE_n, ↓seqE_e, seqE_e, ↓seqE_r, seqE_r, ↓blkE_n, blkE_n, ↓blkE_e, blkE_e, ↓blkE_r, blkE_r, ↓retK_n, retK_n, ↓retK_r, retK_r, ↓aCall_fn, aCall_fn, ↓bnd_s, bnd_s, ↓bnd2_s, bnd2_s, ↓onB_t, onB_t, ↓onB_f, onB_f, ↓onG_tt, onG_tt, ↓onG_tf, onG_tf, ↓onG_ft, onG_ft, ↓onG_ff, onG_ff, ↓onG_s, onG_s, ↓onT_t, onT_t, ↓aPick_t, aPick_t, ↓aPick_f, aPick_f, decide_true, decide_false, st_tmp, results1, results2, List.lookup_cons, List.lookup_nil, Nat.reduceBEq, Bool.false_eq_true, ↓reduceIte, BEq.rfl, Nat.reduceLT, Option.getD_some, Option.getD_none, ↓r16_0, r16_0, ↓r16_1, r16_1, ↓r16_2, r16_2, ↓r16_3, r16_3, ↓r16_4, r16_4, ↓r16_5, r16_5, ↓r16_6, r16_6, ↓r16_7, r16_7, ↓r16_8, r16_8, hx.len, hy.len, bin_neq, e]
    rw [show AV.int .i64 0 = .int .i64 ((0 : Nat) : Int) from rfl, rows_loop hx hy hlm hl B hB hB2 k (by omega) md h _ l.length 0 k (by omega) (by omega), List.drop_zero, List.drop_zero]
    by_cases h2 : l = m
    · rw [if_pos h2, decide_eq_true h2]
      simp -implicitDefEqProofs only [↓runK_seq, runK_seq, ↓runK_cond, runK_cond, ↓runK_block, runK_block, ↓runK_loop, runK_loop, ↓runK_skip, runK_skip, ↓runK_ret, runK_ret, ↓runK_exit, runK_exit, ↓seqE_n, seqE_n, ↓seqE_e, seqE_e, ↓seqE_r, seqE_r, ↓blkE_n, blkE_n, ↓blkE_e, blkE_e, ↓blkE_r, blkE_r, ↓retK_n, retK_n, ↓retK_r, retK_r, ↓aCall_fn, aCall_fn, ↓bnd_s, bnd_s, ↓bnd2_s, bnd2_s, ↓onB_t, onB_t, ↓onB_f, onB_f, ↓onG_tt, onG_tt, ↓onG_tf, onG_tf, ↓onG_ft, onG_ft, ↓onG_ff, onG_ff, ↓onG_s, onG_s, ↓onT_t, onT_t, ↓aPick_t, aPick_t, ↓aPick_f, aPick_f, decide_true, decide_false, st_tmp, results1, results2, List.lookup_cons, List.lookup_nil, Nat.reduceBEq, Bool.false_eq_true, ↓reduceIte, BEq.rfl, Nat.reduceLT, Option.getD_some, Option.getD_none, ↓r16_0, r16_0, ↓r16_1, r16_1, ↓r16_2, r16_2, ↓r16_3, r16_3, ↓r16_4, r16_4, ↓r16_5, r16_5, ↓r16_6, r16_6, ↓r16_7, r16_7, ↓r16_8, r16_8]
    · rw [if_neg h2, decide_eq_false h2]
      simp -implicitDefEqProofs only [↓runK_seq, runK_seq, ↓runK_cond, runK_cond, ↓runK_block, runK_block, ↓runK_loop, runK_loop, ↓runK_skip, runK_skip, ↓runK_ret, runK_ret, ↓runK_exit, runK_exit, ↓seqE_n, seqE_n, ↓seqE_e, seqE_e, ↓seqE_r, seqE_r, ↓blkE_n, blkE_n, ↓blkE_e, blkE_e, ↓blkE_r, blkE_r, ↓retK_n, retK_n, ↓retK_r, retK_r, ↓aCall_fn, aCall_fn, ↓bnd_s, bnd_s, ↓bnd2_s, bnd2_s, ↓onB_t, onB_t, ↓onB_f, onB_f, ↓onG_tt, onG_tt, ↓onG_tf, onG_tf, ↓onG_ft, onG_ft, ↓onG_ff, onG_ff, ↓onG_s, onG_s, ↓onT_t, onT_t, ↓aPick_t, aPick_t, ↓aPick_f, aPick_f, decide_true, decide_false, st_tmp, results1, results2, List.lookup_cons, List.lookup_nil, Nat.reduceBEq, Bool.false_eq_true, ↓reduceIte, BEq.rfl, Nat.reduceLT, Option.getD_some, Option.getD_none, ↓r16_0, r16_0, ↓r16_1, r16_1, ↓r16_2, r16_2, ↓r16_3, r16_3, ↓r16_4, r16_4, ↓r16_5, r16_5, ↓r16_6, r16_6, ↓r16_7, r16_7, ↓r16_8, r16_8]
  · have e : decide (((l.length : Nat) : Int) ≠ (m.length : Nat)) = true := decide_eq_true (by omega)
    rw [decide_eq_false (show ¬ l = m from fun e => hlm (by rw [e]))]
    simp -implicitDefEqProofs only [↓runK_seq, runK_seq, ↓runK_cond, runK_cond, ↓runK_block, runK_block, ↓runK_loop, runK_loop, ↓runK_skip, runK_skip, ↓runK_ret, runK_ret, ↓runK_exit, runK_exit, ↓seqE_n, seqE_n, ↓seqE_e, seqE_e, ↓seqE_r, seqE_r, ↓blkE_n, blkE_n, ↓blkE_e, blkE_e, ↓blkE_r, blkE_r, ↓retK_n, retK_n, ↓retK_r, retK_r, ↓aCall_fn, aCall_fn, ↓bnd_s, bnd_s, ↓bnd2_s, bnd2_s, ↓onB_t, onB_t, ↓onB_f, onB_f, ↓onG_tt, onG_tt, ↓onG_tf, onG_tf, ↓onG_ft, onG_ft, ↓onG_ff, onG_ff, ↓onG_s, onG_s, ↓onT_t, onT_t, ↓aPick_t, aPick_t, ↓aPick_f, aPick_f, decide_true, decide_false, st_tmp, results1, results2, List.lookup_cons, List.lookup_nil, Nat.reduceBEq, Bool.false_eq_true, ↓reduceIte, BEq.rfl, Nat.reduceLT, Option.getD_some, Option.getD_none, ↓r16_0, r16_0, ↓r16_1, r16_1, ↓r16_2, r16_2, ↓r16_3, r16_3, ↓r16_4, r16_4, ↓r16_5, r16_5, ↓r16_6, r16_6, ↓r16_7, r16_7, ↓r16_8, r16_8, hx.len, hy.len, bin_neq, e]
end Go.Ax

/- What the regions of some functions hand on. Printed by a program of mine (gen.py). -/
set_option linter.unusedVariables false
namespace Go.Ax
open Go Go.Proofs
/-! ### (*interregnum/sector.Disk).Fuse -/
noncomputable def O24 (i : Nat) : Array Oper := opsOf i (bodyOf Try.f24)
theorem s24 : bodyOf Try.f24 = (.seq (.region 0 (O24 0) false) (.cond (Go.Operand.tmp 5) (.region 1 (O24 1) false) .skip)) := by kernel_rfl
theorem e24 : E0 24 = some ⟨11, [], bodyOf Try.f24⟩ := by kernel_rfl
theorem r24_0 {β : Type} (call : CallF) (md : Bool) (n : Nat) (k : Ex → List AV → Heap → Option β) (x0 x1 : AV) (h : Heap) :
    runK C0 call md 24 n (.region 0 (O24 0) false) k (st 11 [(0, x0), (1, x1)]) h =
    bnd (aBinC tab .neq 25 x0 .nilp true) fun v1 =>
    k .normal (st 11 [(0, x0), (1, x1), (5, v1)]) h
  := by kernel_rfl
theorem r24_1 {β : Type} (call : CallF) (md : Bool) (n : Nat) (k : Ex → List AV → Heap → Option β) (x0 x1 x5 : AV) (h : Heap) :
    runK C0 call md 24 n (.region 1 (O24 1) false) k (st 11 [(0, x0), (1, x1), (5, x5)]) h =
    bnd (aMax [x1, (.int .i64 0)]) fun v1 =>
    bnd (aNil x0) fun v2 =>
    bnd (aFieldAddr tab 84 v2 2) fun v3 =>
    bnd (aStore tab 3 v3 v1 h) fun h4 =>
    k .normal (st 11 []) h4
  := by kernel_rfl
end Go.Ax

/- What the regions of some functions hand on. Printed by a program of mine (gen.py). -/
set_option linter.unusedVariables false
namespace Go.Ax
open Go Go.Proofs
/-! ### (*interregnum/sector.Disk).Crash -/
noncomputable def O25 (i : Nat) : Array Oper := opsOf i (bodyOf Try.f25)
noncomputable def B25_1 : Code := (.seq (.region 2 (O25 2) false) (.seq (.cond (Go.Operand.tmp 19) .skip (.exit 0)) (.seq (.block 1 (.seq (.region 3 (O25 3) false) (.block 2 (.seq (.region 4 (O25 4) false) (.cond (Go.Operand.tmp 23) (.seq (.region 5 (O25 5) false) (.region 6 (O25 6) true)) (.seq (.region 7 (O25 7) false) (.cond (Go.Operand.tmp 43) (.region 8 (O25 8) true) .skip))))))) (.region 9 (O25 9) false))))
theorem s25 : bodyOf Try.f25 = (.seq (.seq (.region 0 (O25 0) false) (.cond (Go.Operand.tmp 12) .ret .skip)) (.seq (.seq (.region 1 (O25 1) false) (.block 0 (.loop B25_1))) (.region 10 (O25 10) false))) := by kernel_rfl
theorem e25 : E0 25 = some ⟨69, [], bodyOf Try.f25⟩ := by kernel_rfl
theorem r25_0 {β : Type} (call : CallF) (md : Bool) (n : Nat) (k : Ex → List AV → Heap → Option β) (x0 x1 x2 x3 : AV) (h : Heap) :
    runK C0 call md 25 n (.region 0 (O25 0) false) k (st 69 [(0, x0), (1, x1), (2, x2), (3, x3)]) h =
    bnd (aBinC tab .eql 25 x0 .nilp true) fun v1 =>
    k .normal (st 69 [(0, x0), (1, x1), (2, x2), (3, x3), (12, v1)]) h
  := by kernel_rfl
theorem r25_1 {β : Type} (call : CallF) (md : Bool) (n : Nat) (k : Ex → List AV → Heap → Option β) (x0 x1 x2 x3 x12 : AV) (h : Heap) :
    runK C0 call md 25 n (.region 1 (O25 1) false) k (st 69 [(0, x0), (1, x1), (2, x2), (3, x3), (12, x12)]) h =
    bnd (aNil x0) fun v1 =>
    bnd (aFieldAddr tab 84 v1 1) fun v2 =>
    bnd (aLoad tab 82 v2 h) fun v3 =>
    bnd (aLen tab 82 v3) fun v4 =>
    k .normal (st 69 [(0, x0), (1, x1), (2, x2), (3, x3), (16, v3), (17, v4), (18, (.int .i64 0))]) h
  := by kernel_rfl
theorem r25_2 {β : Type} (call : CallF) (md : Bool) (n : Nat) (k : Ex → List AV → Heap → Option β) (x0 x1 x2 x3 x16 x17 x18 : AV) (h : Heap) :
    runK C0 call md 25 n (.region 2 (O25 2) false) k (st 69 [(0, x0), (1, x1), (2, x2), (3, x3), (16, x16), (17, x17), (18, x18)]) h =
    bnd (aBinC tab .lss 3 x18 x17 false) fun v1 =>
    k .normal (st 69 [(0, x0), (1, x1), (2, x2), (3, x3), (16, x16), (17, x17), (18, x18), (19, v1)]) h
  := by kernel_rfl
theorem r25_3 {β : Type} (call : CallF) (md : Bool) (n : Nat) (k : Ex → List AV → Heap → Option β) (x0 x1 x2 x3 x16 x17 x18 x19 : AV) (h : Heap) :
    runK C0 call md 25 n (.region 3 (O25 3) false) k (st 69 [(0, x0), (1, x1), (2, x2), (3, x3), (16, x16), (17, x17), (18, x18), (19, x19)]) h =
    bnd (aIndexAddr tab 82 x16 x18) fun v1 =>
    bnd (aLoad tab 91 v1 h) fun v2 =>
    bnd2 (aAlloc tab 91 h) fun v3 h4 =>
    bnd (aStore tab 91 v3 v2 h4) fun h5 =>
    k .normal (st 69 [(0, x0), (1, x1), (2, x2), (3, x3), (8, x18), (9, v3), (16, x16), (17, x17), (18, x18)]) h5
  := by kernel_rfl
theorem r25_4 {β : Type} (call : CallF) (md : Bool) (n : Nat) (k : Ex → List AV → Heap → Option β) (x0 x1 x2 x3 x8 x9 x16 x17 x18 : AV) (h : Heap) :
    runK C0 call md 25 n (.region 4 (O25 4) false) k (st 69 [(0, x0), (1, x1), (2, x2), (3, x3), (8, x8), (9, x9), (16, x16), (17, x17), (18, x18)]) h =
    bnd (aBinC tab .eql 3 x8 x2 false) fun v1 =>
    k .normal (st 69 [(0, x0), (1, x1), (2, x2), (3, x3), (8, x8), (9, x9), (16, x16), (17, x17), (18, x18), (23, v1)]) h
  := by kernel_rfl
theorem r25_5 {β : Type} (call : CallF) (md : Bool) (n : Nat) (k : Ex → List AV → Heap → Option β) (x0 x1 x2 x3 x8 x9 x16 x17 x18 x23 : AV) (h : Heap) :
    runK C0 call md 25 n (.region 5 (O25 5) false) k (st 69 [(0, x0), (1, x1), (2, x2), (3, x3), (8, x8), (9, x9), (16, x16), (17, x17), (18, x18), (23, x23)]) h =
    bnd (aMax [x3, (.int .i64 0)]) fun v1 =>
    bnd (aMin [v1, (.int .i64 64)]) fun v2 =>
    k .normal (st 69 [(0, x0), (1, x1), (2, x2), (3, x3), (9, x9), (10, v2), (16, x16), (17, x17), (18, x18)]) h
  := by kernel_rfl
theorem r25_6 {β : Type} (call : CallF) (md : Bool) (n : Nat) (k : Ex → List AV → Heap → Option β) (x0 x1 x2 x3 x9 x10 x16 x17 x18 : AV) (h : Heap) :
    runK C0 call md 25 n (.region 6 (O25 6) true) k (st 69 [(0, x0), (1, x1), (2, x2), (3, x3), (9, x9), (10, x10), (16, x16), (17, x17), (18, x18)]) h =
    bnd (aNil x0) fun v1 =>
    bnd (aFieldAddr tab 84 v1 0) fun v2 =>
    bnd (aLoad tab 81 v2 h) fun v3 =>
    bnd (aFieldAddr tab 91 x9 0) fun v4 =>
    bnd (aLoad tab 3 v4 h) fun v5 =>
    bnd (aIndexAddr tab 81 v3 v5) fun v6 =>
    bnd (aSlice tab 89 v6 none (some x10) none) fun v7 =>
    bnd (aFieldAddr tab 91 x9 1) fun v8 =>
    bnd (aSlice tab 89 v8 none (some x10) none) fun v9 =>
    bnd2 (aCpy tab 22 v7 v9 h) fun v10 h11 =>
    k .normal (st 69 [(0, x0), (1, x1), (2, x2), (3, x3), (16, x16), (17, x17), (18, x18)]) h11
  := by kernel_rfl
theorem r25_7 {β : Type} (call : CallF) (md : Bool) (n : Nat) (k : Ex → List AV → Heap → Option β) (x0 x1 x2 x3 x8 x9 x16 x17 x18 x23 : AV) (h : Heap) :
    runK C0 call md 25 n (.region 7 (O25 7) false) k (st 69 [(0, x0), (1, x1), (2, x2), (3, x3), (8, x8), (9, x9), (16, x16), (17, x17), (18, x18), (23, x23)]) h =
    bnd (aBinC tab .rem 3 x8 (.int .i64 64) true) fun v1 =>
    bnd (aBinC tab .shr 44 x1 v1 false) fun v2 =>
    bnd (aBinC tab .and 44 v2 (.int .u64 1) true) fun v3 =>
    bnd (aBinC tab .eql 44 v3 (.int .u64 1) true) fun v4 =>
    k .normal (st 69 [(0, x0), (1, x1), (2, x2), (3, x3), (9, x9), (16, x16), (17, x17), (18, x18), (43, v4)]) h
  := by kernel_rfl
theorem r25_8 {β : Type} (call : CallF) (md : Bool) (n : Nat) (k : Ex → List AV → Heap → Option β) (x0 x1 x2 x3 x9 x16 x17 x18 x43 : AV) (h : Heap) :
    runK C0 call md 25 n (.region 8 (O25 8) true) k (st 69 [(0, x0), (1, x1), (2, x2), (3, x3), (9, x9), (16, x16), (17, x17), (18, x18), (43, x43)]) h =
    bnd (aNil x0) fun v1 =>
    bnd (aFieldAddr tab 84 v1 0) fun v2 =>
    bnd (aLoad tab 81 v2 h) fun v3 =>
    bnd (aFieldAddr tab 91 x9 0) fun v4 =>
    bnd (aLoad tab 3 v4 h) fun v5 =>
    bnd (aFieldAddr tab 91 x9 1) fun v6 =>
    bnd (aLoad tab 89 v6 h) fun v7 =>
    bnd (aIndexAddr tab 81 v3 v5) fun v8 =>
    bnd (aStore tab 89 v8 v7 h) fun h9 =>
    k .normal (st 69 [(0, x0), (1, x1), (2, x2), (3, x3), (16, x16), (17, x17), (18, x18)]) h9
  := by kernel_rfl
theorem r25_9a {β : Type} (call : CallF) (md : Bool) (n : Nat) (k : Ex → List AV → Heap → Option β) (x0 x1 x2 x3 x9 x16 x17 x18 x43 : AV) (h : Heap) :
    runK C0 call md 25 n (.region 9 (O25 9) false) k (st 69 [(0, x0), (1, x1), (2, x2), (3, x3), (9, x9), (16, x16), (17, x17), (18, x18), (43, x43)]) h =
    bnd (aBinC tab .add 3 x18 (.int .i64 1) true) fun v1 =>
    k .normal (st 69 [(0, x0), (1, x1), (2, x2), (3, x3), (16, x16), (17, x17), (18, v1)]) h
  := by kernel_rfl
theorem r25_9b {β : Type} (call : CallF) (md : Bool) (n : Nat) (k : Ex → List AV → Heap → Option β) (x0 x1 x2 x3 x16 x17 x18 : AV) (h : Heap) :
    runK C0 call md 25 n (.region 9 (O25 9) false) k (st 69 [(0, x0), (1, x1), (2, x2), (3, x3), (16, x16), (17, x17), (18, x18)]) h =
    bnd (aBinC tab .add 3 x18 (.int .i64 1) true) fun v1 =>
    k .normal (st 69 [(0, x0), (1, x1), (2, x2), (3, x3), (16, x16), (17, x17), (18, v1)]) h
  := by kernel_rfl
theorem r25_10 {β : Type} (call : CallF) (md : Bool) (n : Nat) (k : Ex → List AV → Heap → Option β) (x0 x1 x2 x3 x16 x17 x18 x19 : AV) (h : Heap) :
    runK C0 call md 25 n (.region 10 (O25 10) false) k (st 69 [(0, x0), (1, x1), (2, x2), (3, x3), (16, x16), (17, x17), (18, x18), (19, x19)]) h =
    bnd (aNil x0) fun v1 =>
    bnd (aFieldAddr tab 84 v1 1) fun v2 =>
    bnd (aStore tab 82 v2 .nils h) fun h3 =>
    bnd (aNil x0) fun v4 =>
    bnd (aFieldAddr tab 84 v4 2) fun v5 =>
    bnd (aStore tab 3 v5 (.int .i64 (-1)) h3) fun h6 =>
    bnd (aNil x0) fun v7 =>
    bnd (aFieldAddr tab 84 v7 3) fun v8 =>
    bnd (aStore tab 4 v8 (.bool false) h6) fun h9 =>
    k .normal (st 69 []) h9
  := by kernel_rfl
end Go.Ax

/- sector's disk: Fuse, Crash. -/
namespace Go.Ax
open Go Go.Proofs

theorem results0 (tm : List AV) : results [] tm = .tuple [] := rfl

def Dk.setFuse (d : Dk) (n : Int) : Dk := { d with fuse := max n 0 }

theorem fuse_ok {S : Obs} {p r : Nat} {h : Heap} {d : Dk} (D : Dsk S h p r d) (n : Int) (md : Bool) (k : Nat) :
    ∃ h', exFn C0 E0 (k + 1) md 24 [dp p, .int .i64 n] h = some (.tuple [], h') ∧ Dsk S h' p r (d.setFuse n) ∧ Keep S h h' := by
  obtain ⟨x, hx, ha⟩ := D.var
  have n0 : ([dp p, .int .i64 n] ++ List.replicate (11 - [dp p, AV.int .i64 n].length) AV.undef) = st 11 [(0, dp p), (1, .int .i64 n)] := rfl
  have mx : (if n < 0 then 0 else n) = max n 0 := by split <;> omega
  refine ⟨_, exFn_of e24 ?_, D.upd hx ha (max n 0) d.down, Keep.set h _ D.hp⟩
  rw [fnK, n0, s24]
  simp -implicitDefEqProofs only [↓runK_seq, runK_seq, ↓runK_cond, runK_cond, ↓runK_block, runK_block, ↓runK_loop, runK_loop, ↓runK_skip, runK_skip, ↓runK_ret, runK_ret, ↓runK_exit, runK_exit, ↓seqE_n, seqE_n, ↓seqE_e, seqE_e, ↓seqE_r, seqE_r, ↓blkE_n, blkE_n, ↓blkE_e, blkE_e, ↓blkE_r, blkE_r, ↓retK_n, retK_n, ↓retK_r, retK_r, ↓aCall_fn, aCall_fn, ↓bnd_s, bnd_s, ↓bnd2_s, bnd2_s, ↓onB_t, onB_t, ↓onB_f, onB_f, ↓onG_tt, onG_tt, ↓onG_tf, onG_tf, ↓onG_ft, onG_ft, ↓onG_ff, onG_ff, ↓onG_s, onG_s, ↓onT_t, onT_t, ↓aPick_t, aPick_t, ↓aPick_f, aPick_f, decide_true, decide_false, st_tmp, results1, results2, List.lookup_cons, List.lookup_nil, Nat.reduceBEq, Bool.false_eq_true, ↓reduceIte, BEq.rfl, Nat.reduceLT, Option.getD_some, Option.getD_none, ↓r24_0, r24_0, ↓r24_1, r24_1, dp_neq, dp_chk, dpf2, max2_i64, mx, dst2 hx, results0]

/-! ### Crash -/
def partOf (a : Int) : Nat := (min (max a 0) 64).toNat
def crashStep (K : Nat) (torn at' : Int) (k : Nat) (l : List (List UInt8)) (w : Nat × List UInt8) : List (List UInt8) :=
  if (k : Int) = torn then l.set w.1 (w.2.take (partOf at') ++ ((l[w.1]?).getD []).drop (partOf at'))
  else if K / 2 ^ (k % 64) % 2 = 1 then l.set w.1 w.2 else l
def crashed (K : Nat) (torn at' : Int) : Nat → List (List UInt8) → List (Nat × List UInt8) → List (List UInt8)
  | _, l, [] => l
  | k, l, w :: ws => crashed K torn at' (k + 1) (crashStep K torn at' k l w) ws
def Dk.crash (d : Dk) (K : Nat) (torn at' : Int) : Dk := ⟨crashed K torn at' 0 d.lasts d.loose, [], -1, false⟩

theorem crashStep_length (K : Nat) (torn at' : Int) (k : Nat) (l : List (List UInt8)) (w : Nat × List UInt8) : (crashStep K torn at' k l w).length = l.length := by
  unfold crashStep; split
  · simp
  · split <;> simp
theorem crashed_length (K : Nat) (torn at' : Int) : ∀ (ws : List (Nat × List UInt8)) (k : Nat) (l : List (List UInt8)), (crashed K torn at' k l ws).length = l.length
  | [], _, _ => rfl
  | w :: ws, k, l => by rw [crashed, crashed_length K torn at' ws, crashStep_length]
theorem partOf_le (a : Int) : partOf a ≤ 64 := by unfold partOf; omega
theorem crashStep_cells (K : Nat) (torn at' : Int) (k : Nat) (l : List (List UInt8)) (w : Nat × List UInt8) (hl : ∀ b ∈ l, b.length = 64) (hw : w.2.length = 64) (hi : w.1 < l.length) : ∀ b ∈ crashStep K torn at' k l w, b.length = 64 := by
  have hp := partOf_le at'
  have hc : ((l[w.1]?).getD []).length = 64 := by rw [List.getElem?_eq_getElem hi]; exact hl _ (List.getElem_mem hi)
  intro b hb
  unfold crashStep at hb
  split at hb
  · rcases List.mem_or_eq_of_mem_set hb with hb | rfl
    · exact hl b hb
    · simp [hw, hc]; omega
  · split at hb
    · rcases List.mem_or_eq_of_mem_set hb with hb | rfl
      · exact hl b hb
      · exact hw
    · exact hl b hb

theorem shr_64 (K n : Nat) (hn : n < 64) : aBinC tab .shr 44 (.int .u64 K) (.int .i64 n) false = some (.int .u64 ((K / 2 ^ n : Nat) : Int)) := by
  have e : Go.binOp .shr 44 (.int .u64 (K : Int)) (.int .i64 (n : Int)) = pure (.int .u64 ((K : Int) / 2 ^ n)) := by
    have := Go.shift_shr .u64 .i64 (K : Int) (n : Int) (by omega) (by have : IntKind.u64.bits = 64 := rfl; omega)
    rw [Int.toNat_natCast] at this
    exact this
  simp only [aBinC, aBin, e, ofPure, pure]
  simp
theorem and_64 (a : Nat) (ha : a < 2 ^ 64) : aBinC tab .and 44 (.int .u64 a) (.int .u64 1) true = some (.int .u64 ((a % 2 : Nat) : Int)) := by
  have e : Go.binOp .and 44 (.int .u64 (a : Int)) (.int .u64 1) = pure (.int .u64 (IntKind.u64.wrap ((BitVec.ofInt 64 (a : Int) &&& BitVec.ofInt 64 1).toNat : Int))) := rfl
  simp only [aBinC, aBin, e, ofPure, pure, wrap_u64]
  have e2 : (BitVec.ofInt 64 (a : Int) &&& BitVec.ofInt 64 1).toNat = a % 2 := by
    rw [BitVec.toNat_and]
    have h1 : (BitVec.ofInt 64 (a : Int)).toNat = a := by simp; omega
    have h2 : (BitVec.ofInt 64 (1 : Int)).toNat = 1 := by decide
    rw [h1, h2, Nat.and_one_is_mod]
  rw [e2]
  congr 2
  omega
theorem rem_64 (a : Nat) (ha : a < 2 ^ 62) : aBinC tab .rem 3 (.int .i64 a) (.int .i64 64) true = some (.int .i64 ((a % 64 : Nat) : Int)) := by
  simp [aBinC, aBin, Go.binOp, Op.intDiv, ofPure, pure]
  rw [Int.tmod_eq_emod_of_nonneg (by omega)]
  try rw [wrap_i64]
  all_goals try omega

theorem sl89_to (q i part : Nat) (hp : part ≤ 64) : aSlice tab 89 (.ref q [i] 88) none (some (.int .i64 part)) none = some (if 0 < part then .msl q [i] 5 0 part else .vsl 5 [] .none) := by
  have e : ((part : Int) ≤ 64) := by omega
  simp only [aSlice, td89, tu89, aBounds, aBound, tu5, if_true]
  by_cases h : 0 < part
  · simp [h, e]
  · simp [h, e]

/-- A part of a sector is written over. -/
theorem cpy_part {H : Heap} {r q i part : Nat} {c : List (List UInt8)} {w : Nat × List UInt8} (hp : part ≤ 64) (hr : H[r]? = some (.row 88 (c.map cellAV))) (hq : H[q]? = some (.var 91 (writeAV w))) (hi : i < c.length)
    (hc : c[i].length = 64) (hw : w.2.length = 64) :
    ∃ v H', aCpy tab 22 (if 0 < part then .msl r [i] 5 0 part else .vsl 5 [] .none) (if 0 < part then .msl q [1] 5 0 part else .vsl 5 [] .none) H = some (v, H') ∧
      H'[r]? = some (.row 88 ((c.set i (w.2.take part ++ c[i].drop part)).map cellAV)) ∧ ∀ j, j ≠ r → H'[j]? = H[j]? := by
  by_cases h : 0 < part
  · rw [if_pos h, if_pos h]
    have hlt := (List.getElem?_eq_some_iff.1 hr).1
    have hsrc : srcElems tab 5 H (.msl q [1] 5 0 part) = some ((w.2.take part).map U8) := by
      simp [srcElems, slElems, hq, rowGet, objGet, getP, writeAV, cellAV, hw, hp, List.map_take]
    have hl : (w.2.take part).length = part := by simp; omega
    refine ⟨.int .i64 part, H.set r (.row 88 ((c.set i (w.2.take part ++ c[i].drop part)).map cellAV)), ?_, by simp [hlt], fun j hj => List.getElem?_set_ne (by omega)⟩
    have hg : rowGet (.row 88 (c.map cellAV)) [i] = some (c[i].map U8) := by simp [rowGet, objGet, getP, cellAV, hi]
    have hs : rowSet ((w.2.take part ++ c[i].drop part).map U8) (.row 88 (c.map cellAV)) [i] = some (.row 88 ((c.set i (w.2.take part ++ c[i].drop part)).map cellAV)) := by
      simp [rowSet, objGet, getP, objSet, setP, cellAV, hi, List.map_set]
    simp only [aCpy, td22, tu5, hsrc, aCopy, hr, hg]
    simp only [if_true, Nat.zero_add, List.length_map, hc, hp, hl, Nat.min_self, List.take_zero, List.nil_append]
    rw [show ((w.2.take part).map U8).take part ++ (c[i].map U8).drop part = (w.2.take part ++ c[i].drop part).map U8 from by
      rw [List.map_append, List.map_drop, List.take_of_length_le (by rw [List.length_map]; omega)], hs]
  · obtain rfl : part = 0 := by omega
    refine ⟨.int .i64 0, H, by simp [aCpy, srcElems], ?_, fun _ _ => rfl⟩
    rw [hr]
    simp

theorem crash_loop {S : Obs} {h0 : Heap} {p r nL : Nat} {y : AV} {L : List (Nat × List UInt8)} {f : Int} {w : Bool} (hy : Ap 90 S h0 y (L.map writeAV)) (hL : L.length < 2 ^ 30)
    (hws : ∀ w ∈ L, w.1 < nL ∧ w.2.length = 64) (hs : nL ≠ 0 → S r) (KK : Nat) (hK : KK < 2 ^ 64) (torn at' : Int) (call : CallF) (N : Nat) (md : Bool) :
    ∀ (m i n : Nat) (h : Heap) (c : List (List UInt8)), i + m = L.length → m < n → Up S h → h[p]? = some (dv r nL y f w) → c.length = nL → (∀ b ∈ c, b.length = 64) → (nL ≠ 0 → h[r]? = some (.row 88 (c.map cellAV))) →
    ∃ h', (∀ K : Ex → List AV → Heap → Option (AV × Heap), loopK (fun next => runK C0 call md 25 N B25_1 (seqE next K)) n (st 69 [(0, dp p), (1, .int .u64 KK), (2, .int .i64 torn), (3, .int .i64 at'), (16, y), (17, .int .i64 L.length), (18, .int .i64 i)]) h =
      K (.exit 0) (st 69 [(0, dp p), (1, .int .u64 KK), (2, .int .i64 torn), (3, .int .i64 at'), (16, y), (17, .int .i64 L.length), (18, .int .i64 L.length), (19, .bool false)]) h') ∧
      h'[p]? = some (dv r nL y f w) ∧ (nL ≠ 0 → h'[r]? = some (.row 88 ((crashed KK torn at' i c (L.drop i)).map cellAV))) ∧ Keep S h h' := by
  intro m
  induction m with
  | zero =>
    intro i n h c hi hn up hp hcl hcc hr
    obtain ⟨n, rfl⟩ : ∃ j, n = j + 1 := ⟨n - 1, by omega⟩
    obtain rfl : i = L.length := by omega
    refine ⟨h, fun K => ?_, hp, by rw [List.drop_length]; exact hr, Keep.refl _ _⟩
    rw [loopK_succ]
    generalize loopK (_ : (List AV → Heap → Option (AV × Heap)) → List AV → Heap → Option (AV × Heap)) n = Lp
    have e : decide (((L.length : Nat) : Int) < (L.length : Nat)) = false := decide_eq_false (by omega)
    simp -implicitDefEqProofs only [B25_1, ↓runK_seq, runK_seq, ↓runK_cond, runK_cond, ↓runK_block, runK_block, ↓runK_loop, runK_loop, ↓runK_skip, runK_skip, ↓runK_ret, runK_ret, ↓runK_exit, runK_exit, ↓seqE_n, seqE_n, ↓seqE_e, seqE_e, ↓seqE_r, seqE_r, ↓blkE_n, blkE_n, ↓blkE_e, blkE_e, ↓blkE_r, blkE_r, ↓retK_n, retK_n, ↓retK_r, retK_r, ↓aCall_fn, aCall_fn, ↓bnd_s, bnd_s, ↓bnd2_s, bnd2_s, ↓onB_t, onB_t, ↓onB_f, onB_f, ↓onG_tt, onG_tt, ↓onG_tf, onG_tf, ↓onG_ft, onG_ft, ↓onG_ff, onG_ff, ↓onG_s, onG_s, ↓onT_t, onT_t, ↓aPick_t, aPick_t, ↓aPick_f, aPick_f, decide_true, decide_false, st_tmp, results1, results2, List.lookup_cons, List.lookup_nil, Nat.reduceBEq, Bool.false_eq_true, ↓reduceIte, BEq.rfl, Nat.reduceLT, Option.getD_some, Option.getD_none, ↓r25_0, r25_0, ↓r25_1, r25_1, ↓r25_2, r25_2, ↓r25_3, r25_3, ↓r25_4, r25_4, ↓r25_5, r25_5, ↓r25_6, r25_6, ↓r25_7, r25_7, ↓r25_8, r25_8, ↓r25_9a, r25_9a, ↓r25_9b, r25_9b, ↓r25_10, r25_10, bin_lss, e]
  | succ m ih =>
    intro i n h c hi hn up hp hcl hcc hr
    obtain ⟨n, rfl⟩ : ∃ j, n = j + 1 := ⟨n - 1, by omega⟩
    have hlt : i < L.length := by omega
    have hw : L[i]? = some L[i] := List.getElem?_eq_getElem hlt
    have hwl := hws _ (List.getElem_mem hlt)
    rw [drop_get hw]
    simp only [crashed]
    have e : decide (((i : Nat) : Int) < (L.length : Nat)) = true := decide_eq_true (by omega)
    have wr : IntKind.i64.wrap ((i : Int) + 1) = ((i + 1 : Nat) : Int) := by rw [wrap_i64] <;> omega
    generalize L[i] = v at *
    have hne : nL ≠ 0 := by omega
    have k1 : Keep (From h.length) h (h ++ [.var 91 (writeAV v)]) := Keep.app h _ (Up.fresh h)
    have hq : (h ++ [.var 91 (writeAV v)])[h.length]? = some (.var 91 (writeAV v)) := by simp
    have hsn := sn91 h v
    have hp1 : (h ++ [.var 91 (writeAV v)])[p]? = some (dv r nL y f w) := by rw [List.getElem?_append_left (List.getElem?_eq_some_iff.1 hp).1]; exact hp
    have hr1 : (h ++ [.var 91 (writeAV v)])[r]? = some (.row 88 (c.map cellAV)) := by rw [List.getElem?_append_left (List.getElem?_eq_some_iff.1 (hr hne)).1]; exact hr hne
    have kk := k1.up up
    have hlen1 : (h ++ [Obj.var 91 (writeAV v)]).length = h.length + 1 := by simp
    generalize h ++ [Obj.var 91 (writeAV v)] = H at *
    have hrp : r ≠ p := by intro e; subst e; rw [hp1] at hr1; cases hr1
    have hvc : v.1 < c.length := by omega
    have hcv : c[v.1].length = 64 := hcc _ (List.getElem_mem hvc)
    have hget : (c[v.1]?).getD [] = c[v.1] := by rw [List.getElem?_eq_getElem hvc]; rfl
    -- the next step, whatever the world is then
    have next : ∀ (H' : Heap), H'.length = H.length → H'[r]? = some (.row 88 ((crashStep KK torn at' i c v).map cellAV)) → (∀ j, j ≠ r → H'[j]? = H[j]?) →
        ∃ h', (∀ K : Ex → List AV → Heap → Option (AV × Heap), loopK (fun next => runK C0 call md 25 N B25_1 (seqE next K)) n (st 69 [(0, dp p), (1, .int .u64 KK), (2, .int .i64 torn), (3, .int .i64 at'), (16, y), (17, .int .i64 L.length), (18, .int .i64 ((i + 1 : Nat) : Int))]) H' =
          K (.exit 0) (st 69 [(0, dp p), (1, .int .u64 KK), (2, .int .i64 torn), (3, .int .i64 at'), (16, y), (17, .int .i64 L.length), (18, .int .i64 L.length), (19, .bool false)]) h') ∧
          h'[p]? = some (dv r nL y f w) ∧ (nL ≠ 0 → h'[r]? = some (.row 88 ((crashed KK torn at' (i + 1) (crashStep KK torn at' i c v) (L.drop (i + 1))).map cellAV))) ∧ Keep S h h' := by
      intro H' hl' hr' ho'
      have k2 : Keep S H H' := ⟨by omega, fun j hj => ho' j (by rintro rfl; exact hj (hs hne))⟩
      obtain ⟨h', g1, g2, g3, g4⟩ := ih (i + 1) n H' (crashStep KK torn at' i c v) (by omega) (by omega) ((up.keep kk).keep k2) (by rw [ho' p (fun e => hrp e.symm)]; exact hp1)
        (by rw [crashStep_length]; exact hcl) (crashStep_cells KK torn at' i c v hcc hwl.2 hvc) (fun _ => hr')
      exact ⟨h', g1, g2, g3, (kk.trans k2).trans g4⟩
    have mx : (if (64 : Int) < (if at' < 0 then 0 else at') then 64 else (if at' < 0 then 0 else at')) = ((partOf at' : Nat) : Int) := by unfold partOf; split <;> split <;> omega
    by_cases ht : (i : Int) = torn
    · have e1 : decide ((i : Int) = torn) = true := decide_eq_true ht
      obtain ⟨u, H', cp, hr', ho'⟩ := cpy_part (partOf_le at') hr1 hq hvc hcv hwl.2
      have hcs : crashStep KK torn at' i c v = c.set v.1 (v.2.take (partOf at') ++ c[v.1].drop (partOf at')) := by unfold crashStep; rw [if_pos ht, hget]
      have hl' : H'.length = H.length := by
        have hc := cp
        unfold aCpy at hc
        simp only [td22, tu5] at hc
        by_cases hpt : 0 < partOf at'
        · rw [if_pos hpt] at hc
          simp only [if_true] at hc
          split at hc
          · unfold aCopy at hc
            simp only [hr1] at hc
            split at hc
            · split at hc
              · split at hc
                · cases hc; simp
                · cases hc
              · cases hc
            · cases hc
          · cases hc
        · rw [if_neg hpt] at hc
          simp only [if_true] at hc
          split at hc
          · cases hc; rfl
          · cases hc
      obtain ⟨h', g1, g2, g3, g4⟩ := next H' hl' (by rw [hcs]; exact hr') ho'
      refine ⟨h', fun K => ?_, g2, g3, g4⟩
      rw [loopK_succ, ← g1 K]
      generalize loopK (_ : (List AV → Heap → Option (AV × Heap)) → List AV → Heap → Option (AV × Heap)) n = Lp
      simp -implicitDefEqProofs only [B25_1, ↓runK_seq, runK_seq, ↓runK_cond, runK_cond, ↓runK_block, runK_block, ↓runK_loop, runK_loop, ↓runK_skip, runK_skip, ↓runK_ret, runK_ret, ↓runK_exit, runK_exit, ↓seqE_n, seqE_n, ↓seqE_e, seqE_e, ↓seqE_r, seqE_r, ↓blkE_n, blkE_n, ↓blkE_e, blkE_e, ↓blkE_r, blkE_r, ↓retK_n, retK_n, ↓retK_r, retK_r, ↓aCall_fn, aCall_fn, ↓bnd_s, bnd_s, ↓bnd2_s, bnd2_s, ↓onB_t, onB_t, ↓onB_f, onB_f, ↓onG_tt, onG_tt, ↓onG_tf, onG_tf, ↓onG_ft, onG_ft, ↓onG_ff, onG_ff, ↓onG_s, onG_s, ↓onT_t, onT_t, ↓aPick_t, aPick_t, ↓aPick_f, aPick_f, decide_true, decide_false, st_tmp, results1, results2, List.lookup_cons, List.lookup_nil, Nat.reduceBEq, Bool.false_eq_true, ↓reduceIte, BEq.rfl, Nat.reduceLT, Option.getD_some, Option.getD_none, ↓r25_0, r25_0, ↓r25_1, r25_1, ↓r25_2, r25_2, ↓r25_3, r25_3, ↓r25_4, r25_4, ↓r25_5, r25_5, ↓r25_6, r25_6, ↓r25_7, r25_7, ↓r25_8, r25_8, ↓r25_9a, r25_9a, ↓r25_9b, r25_9b, ↓r25_10, r25_10, bin_lss, e, idx82 hy hw, load91v, alloc91, hsn, bin_eql, e1, max2_i64, min2_i64, mx, dp_chk, dpf0, dld0 hp1, fa91_0, wld0 hq, fa91_1, idx81 r _ v.1 hwl.1, sl89_to _ _ _ (partOf_le at'), cp, bin_add, wr]
    · have e1 : decide ((i : Int) = torn) = false := decide_eq_false ht
      have hb : KK / 2 ^ (i % 64) < 2 ^ 64 := Nat.lt_of_le_of_lt (Nat.div_le_self _ _) hK
      by_cases hk : KK / 2 ^ (i % 64) % 2 = 1
      · have e2 : decide (((KK / 2 ^ (i % 64) % 2 : Nat) : Int) = 1) = true := decide_eq_true (by omega)
        have sc := store_cell (c := v.2) hr1 hvc
        have hcs : crashStep KK torn at' i c v = c.set v.1 v.2 := by unfold crashStep; rw [if_neg ht, if_pos hk]
        obtain ⟨h', g1, g2, g3, g4⟩ := next (H.set r (.row 88 ((c.set v.1 v.2).map cellAV))) (by simp) (by rw [hcs]; simp [(List.getElem?_eq_some_iff.1 hr1).1]) (fun j hj => List.getElem?_set_ne (by omega))
        refine ⟨h', fun K => ?_, g2, g3, g4⟩
        rw [loopK_succ, ← g1 K]
        generalize loopK (_ : (List AV → Heap → Option (AV × Heap)) → List AV → Heap → Option (AV × Heap)) n = Lp
        simp -implicitDefEqProofs only [B25_1, ↓runK_seq, runK_seq, ↓runK_cond, runK_cond, ↓runK_block, runK_block, ↓runK_loop, runK_loop, ↓runK_skip, runK_skip, ↓runK_ret, runK_ret, ↓runK_exit, runK_exit, ↓seqE_n, seqE_n, ↓seqE_e, seqE_e, ↓seqE_r, seqE_r, ↓blkE_n, blkE_n, ↓blkE_e, blkE_e, ↓blkE_r, blkE_r, ↓retK_n, retK_n, ↓retK_r, retK_r, ↓aCall_fn, aCall_fn, ↓bnd_s, bnd_s, ↓bnd2_s, bnd2_s, ↓onB_t, onB_t, ↓onB_f, onB_f, ↓onG_tt, onG_tt, ↓onG_tf, onG_tf, ↓onG_ft, onG_ft, ↓onG_ff, onG_ff, ↓onG_s, onG_s, ↓onT_t, onT_t, ↓aPick_t, aPick_t, ↓aPick_f, aPick_f, decide_true, decide_false, st_tmp, results1, results2, List.lookup_cons, List.lookup_nil, Nat.reduceBEq, Bool.false_eq_true, ↓reduceIte, BEq.rfl, Nat.reduceLT, Option.getD_some, Option.getD_none, ↓r25_0, r25_0, ↓r25_1, r25_1, ↓r25_2, r25_2, ↓r25_3, r25_3, ↓r25_4, r25_4, ↓r25_5, r25_5, ↓r25_6, r25_6, ↓r25_7, r25_7, ↓r25_8, r25_8, ↓r25_9a, r25_9a, ↓r25_9b, r25_9b, ↓r25_10, r25_10, bin_lss, e, idx82 hy hw, load91v, alloc91, hsn, bin_eql, e1, rem_64 i (by omega), shr_64 KK (i % 64) (by omega), and_64 _ hb, e2, dp_chk, dpf0, dld0 hp1, fa91_0, wld0 hq, fa91_1, wld1 hq, idx81 r _ v.1 hwl.1, sc, bin_add, wr]
      · have e2 : decide (((KK / 2 ^ (i % 64) % 2 : Nat) : Int) = 1) = false := decide_eq_false (by omega)
        have hcs : crashStep KK torn at' i c v = c := by unfold crashStep; rw [if_neg ht, if_neg hk]
        obtain ⟨h', g1, g2, g3, g4⟩ := next H rfl (by rw [hcs]; exact hr1) (fun _ _ => rfl)
        refine ⟨h', fun K => ?_, g2, g3, g4⟩
        rw [loopK_succ, ← g1 K]
        generalize loopK (_ : (List AV → Heap → Option (AV × Heap)) → List AV → Heap → Option (AV × Heap)) n = Lp
        simp -implicitDefEqProofs only [B25_1, ↓runK_seq, runK_seq, ↓runK_cond, runK_cond, ↓runK_block, runK_block, ↓runK_loop, runK_loop, ↓runK_skip, runK_skip, ↓runK_ret, runK_ret, ↓runK_exit, runK_exit, ↓seqE_n, seqE_n, ↓seqE_e, seqE_e, ↓seqE_r, seqE_r, ↓blkE_n, blkE_n, ↓blkE_e, blkE_e, ↓blkE_r, blkE_r, ↓retK_n, retK_n, ↓retK_r, retK_r, ↓aCall_fn, aCall_fn, ↓bnd_s, bnd_s, ↓bnd2_s, bnd2_s, ↓onB_t, onB_t, ↓onB_f, onB_f, ↓onG_tt, onG_tt, ↓onG_tf, onG_tf, ↓onG_ft, onG_ft, ↓onG_ff, onG_ff, ↓onG_s, onG_s, ↓onT_t, onT_t, ↓aPick_t, aPick_t, ↓aPick_f, aPick_f, decide_true, decide_false, st_tmp, results1, results2, List.lookup_cons, List.lookup_nil, Nat.reduceBEq, Bool.false_eq_true, ↓reduceIte, BEq.rfl, Nat.reduceLT, Option.getD_some, Option.getD_none, ↓r25_0, r25_0, ↓r25_1, r25_1, ↓r25_2, r25_2, ↓r25_3, r25_3, ↓r25_4, r25_4, ↓r25_5, r25_5, ↓r25_6, r25_6, ↓r25_7, r25_7, ↓r25_8, r25_8, ↓r25_9a, r25_9a, ↓r25_9b, r25_9b, ↓r25_10, r25_10, bin_lss, e, idx82 hy hw, load91v, alloc91, hsn, bin_eql, e1, rem_64 i (by omega), shr_64 KK (i % 64) (by omega), and_64 _ hb, e2, bin_add, wr]

theorem crash_ok {S : Obs} {p r : Nat} {h : Heap} {d : Dk} (D : Dsk S h p r d) (up : Up S h) (hl : d.loose.length < 2 ^ 30) (KK : Nat) (hK : KK < 2 ^ 64) (torn at' : Int) (md : Bool) (k : Nat) (hk : d.loose.length < k) :
    ∃ h', exFn C0 E0 (k + 1) md 25 [dp p, .int .u64 KK, .int .i64 torn, .int .i64 at'] h = some (.tuple [], h') ∧ Dsk S h' p r (d.crash KK torn at') ∧ Keep S h h' := by
  obtain ⟨x, hx, ha⟩ := D.var
  have n0 : ([dp p, .int .u64 KK, .int .i64 torn, .int .i64 at'] ++ List.replicate (69 - [dp p, AV.int .u64 KK, .int .i64 torn, .int .i64 at'].length) AV.undef) = st 69 [(0, dp p), (1, .int .u64 KK), (2, .int .i64 torn), (3, .int .i64 at')] := rfl
  have hlen := len82 ha
  rw [List.length_map] at hlen
  have hz : ∀ {l : List (List UInt8)}, l.length ≠ 0 → l ≠ [] := fun h e => h (by rw [e]; rfl)
  obtain ⟨h1, f1, f2, f3, f4⟩ := crash_loop (f := d.fuse) (w := d.down) ha hl D.loose (fun h => D.hr (hz h)) KK hK torn at' (exFn C0 E0 k) k md d.loose.length 0 k h d.lasts (by omega) hk up hx rfl D.cells (fun h => D.row (hz h))
  rw [show ((0 : Nat) : Int) = 0 from rfl] at f1
  have hlt : p < h1.length := (List.getElem?_eq_some_iff.1 f2).1
  have hx1 : (h1.set p (dv r d.lasts.length .nils d.fuse d.down))[p]? = some (dv r d.lasts.length .nils d.fuse d.down) := by simp [hlt]
  have hx2 : (h1.set p (dv r d.lasts.length .nils (-1) d.down))[p]? = some (dv r d.lasts.length .nils (-1) d.down) := by simp [hlt]
  have t1 := dst1 f2 (y := .nils) rfl
  have t2 := dst2 hx1 (-1)
  rw [List.set_set] at t2
  have t3 := dst3 hx2 false
  rw [List.set_set] at t3
  have hcl : (crashed KK torn at' 0 d.lasts d.loose).length = d.lasts.length := crashed_length _ _ _ _ _ _
  have hcells : ∀ (ws : List (Nat × List UInt8)) (k : Nat) (l : List (List UInt8)), l.length = d.lasts.length → (∀ b ∈ l, b.length = 64) → (∀ w ∈ ws, w.1 < d.lasts.length ∧ w.2.length = 64) → ∀ b ∈ crashed KK torn at' k l ws, b.length = 64 := by
    intro ws
    induction ws with
    | nil => intro k l _ h _; exact h
    | cons w ws ih =>
      intro k l e h hw
      have h0 := hw w List.mem_cons_self
      exact ih (k + 1) _ (by rw [crashStep_length]; exact e) (crashStep_cells KK torn at' k l w h h0.2 (by omega)) fun v hv => hw v (List.mem_cons_of_mem _ hv)
  refine ⟨h1.set p (dv r d.lasts.length .nils (-1) false), exFn_of e25 ?_, ?_, f4.trans (Keep.set h1 _ D.hp)⟩
  · rw [fnK, n0, s25]
    simp -implicitDefEqProofs only [↓runK_seq, runK_seq, ↓runK_cond, runK_cond, ↓runK_block, runK_block, ↓runK_loop, runK_loop, ↓runK_skip, runK_skip, ↓runK_ret, runK_ret, ↓runK_exit, runK_exit, ↓seqE_n, seqE_n, ↓seqE_e, seqE_e, ↓seqE_r, seqE_r, ↓blkE_n, blkE_n, ↓blkE_e, blkE_e, ↓blkE_r, blkE_r, ↓retK_n, retK_n, ↓retK_r, retK_r, ↓aCall_fn, aCall_fn, ↓bnd_s, bnd_s, ↓bnd2_s, bnd2_s, ↓onB_t, onB_t, ↓onB_f, onB_f, ↓onG_tt, onG_tt, ↓onG_tf, onG_tf, ↓onG_ft, onG_ft, ↓onG_ff, onG_ff, ↓onG_s, onG_s, ↓onT_t, onT_t, ↓aPick_t, aPick_t, ↓aPick_f, aPick_f, decide_true, decide_false, st_tmp, results1, results2, List.lookup_cons, List.lookup_nil, Nat.reduceBEq, Bool.false_eq_true, ↓reduceIte, BEq.rfl, Nat.reduceLT, Option.getD_some, Option.getD_none, ↓r25_0, r25_0, ↓r25_1, r25_1, ↓r25_2, r25_2, ↓r25_3, r25_3, ↓r25_4, r25_4, ↓r25_5, r25_5, ↓r25_6, r25_6, ↓r25_7, r25_7, ↓r25_8, r25_8, ↓r25_9a, r25_9a, ↓r25_9b, r25_9b, ↓r25_10, r25_10, dp_nil, dp_chk, dpf1, dld1 hx, hlen]
    rw [f1]
    simp -implicitDefEqProofs only [↓runK_seq, runK_seq, ↓runK_cond, runK_cond, ↓runK_block, runK_block, ↓runK_loop, runK_loop, ↓runK_skip, runK_skip, ↓runK_ret, runK_ret, ↓runK_exit, runK_exit, ↓seqE_n, seqE_n, ↓seqE_e, seqE_e, ↓seqE_r, seqE_r, ↓blkE_n, blkE_n, ↓blkE_e, blkE_e, ↓blkE_r, blkE_r, ↓retK_n, retK_n, ↓retK_r, retK_r, ↓aCall_fn, aCall_fn, ↓bnd_s, bnd_s, ↓bnd2_s, bnd2_s, ↓onB_t, onB_t, ↓onB_f, onB_f, ↓onG_tt, onG_tt, ↓onG_tf, onG_tf, ↓onG_ft, onG_ft, ↓onG_ff, onG_ff, ↓onG_s, onG_s, ↓onT_t, onT_t, ↓aPick_t, aPick_t, ↓aPick_f, aPick_f, decide_true, decide_false, st_tmp, results1, results2, List.lookup_cons, List.lookup_nil, Nat.reduceBEq, Bool.false_eq_true, ↓reduceIte, BEq.rfl, Nat.reduceLT, Option.getD_some, Option.getD_none, ↓r25_0, r25_0, ↓r25_1, r25_1, ↓r25_2, r25_2, ↓r25_3, r25_3, ↓r25_4, r25_4, ↓r25_5, r25_5, ↓r25_6, r25_6, ↓r25_7, r25_7, ↓r25_8, r25_8, ↓r25_9a, r25_9a, ↓r25_9b, r25_9b, ↓r25_10, r25_10, dp_chk, dpf1, dpf2, dpf3, t1, t2, t3, results0]
  · refine ⟨D.hp, fun hne => D.hr (hz (by rw [← hcl]; intro e; exact hne (List.eq_nil_of_length_eq_zero e))), ⟨.nils, ?_, .inl ⟨rfl, rfl⟩⟩, fun hne => ?_, hcells _ _ _ rfl D.cells D.loose, fun w hw => (List.not_mem_nil hw).elim, by show (crashed KK torn at' 0 d.lasts d.loose).length ≤ 1024; rw [hcl]; exact D.few⟩
    · show (h1.set p (dv r d.lasts.length .nils (-1) false))[p]? = some (dv r (crashed KK torn at' 0 d.lasts d.loose).length .nils (-1) false)
      rw [hcl, List.getElem?_set_self hlt]
    · have hne' : d.lasts.length ≠ 0 := by rw [← hcl]; intro e; exact hne (List.eq_nil_of_length_eq_zero e)
      have hr := f3 hne'
      rw [List.getElem?_set_ne]
      · exact hr
      · intro e
        subst e
        rw [f2] at hr
        cases hr
end Go.Ax

/- What the regions of some functions hand on. Printed by a program of mine (gen.py). -/
set_option linter.unusedVariables false
namespace Go.Ax
open Go Go.Proofs
/-! ### interregnum/region.Clean -/
noncomputable def O19 (i : Nat) : Array Oper := opsOf i (bodyOf Try.f19)
noncomputable def B19_1 : Code := (.seq (.seq (.region 3 (O19 3) false) (.cond (Go.Operand.tmp 19) .skip (.exit 0))) (.seq (.block 1 (.seq (.region 5 (O19 5) false) (.seq (.region 6 (O19 6) false) (.cond (Go.Operand.tmp 30) (.seq (.seq (.region 7 (O19 7) false) (.seq (.region 8 (O19 8) false) (.cond (Go.Operand.tmp 35) (.seq (.region 9 (O19 9) false) .ret) .skip))) (.region 10 (O19 10) false)) .skip)))) (.region 4 (O19 4) false)))
theorem s19 : bodyOf Try.f19 = (.seq (.region 0 (O19 0) false) (.seq (.region 1 (O19 1) false) (.seq (.seq (.region 2 (O19 2) false) (.block 0 (.loop B19_1))) (.seq (.seq (.region 11 (O19 11) false) (.cond (Go.Operand.tmp 38) (.seq (.region 12 (O19 12) false) .ret) .skip)) (.seq (.region 13 (O19 13) false) .ret))))) := by kernel_rfl
theorem e19 : E0 19 = some ⟨41, [6], bodyOf Try.f19⟩ := by kernel_rfl
theorem r19_0 {β : Type} (call : CallF) (md : Bool) (n : Nat) (k : Ex → List AV → Heap → Option β) (x0 x1 x2 : AV) (h : Heap) :
    runK C0 call md 19 n (.region 0 (O19 0) false) k (st 41 [(0, x0), (1, x1), (2, x2)]) h =
    k .normal (st 41 [(0, x0), (1, x1), (2, x2)]) h
  := by kernel_rfl
theorem r19_1 {β : Type} (call : CallF) (md : Bool) (n : Nat) (k : Ex → List AV → Heap → Option β) (x0 x1 x2 : AV) (h : Heap) :
    runK C0 call md 19 n (.region 1 (O19 1) false) k (st 41 [(0, x0), (1, x1), (2, x2)]) h =
    k .normal (st 41 [(0, x0), (1, x1), (2, x2), (7, (.bool false))]) h
  := by kernel_rfl
theorem r19_2 {β : Type} (call : CallF) (md : Bool) (n : Nat) (k : Ex → List AV → Heap → Option β) (x0 x1 x2 x7 : AV) (h : Heap) :
    runK C0 call md 19 n (.region 2 (O19 2) false) k (st 41 [(0, x0), (1, x1), (2, x2), (7, x7)]) h =
    bnd (aMax [x1, (.int .i64 0)]) fun v1 =>
    k .normal (st 41 [(0, x0), (2, x2), (7, x7), (8, v1)]) h
  := by kernel_rfl
theorem r19_3 {β : Type} (call : CallF) (md : Bool) (n : Nat) (k : Ex → List AV → Heap → Option β) (x0 x2 x7 x8 : AV) (h : Heap) :
    runK C0 call md 19 n (.region 3 (O19 3) false) k (st 41 [(0, x0), (2, x2), (7, x7), (8, x8)]) h =
    bnd2 (aCall call md (.fn (.func 46) []) [x0] h) fun v1 h2 =>
    bnd (aMin [x2, v1]) fun v3 =>
    bnd (aBinC tab .lss 3 x8 v3 false) fun v4 =>
    k .normal (st 41 [(0, x0), (2, x2), (7, x7), (8, x8), (19, v4)]) h2
  := by kernel_rfl
theorem r19_4a {β : Type} (call : CallF) (md : Bool) (n : Nat) (k : Ex → List AV → Heap → Option β) (x0 x2 x7 x8 x30 : AV) (h : Heap) :
    runK C0 call md 19 n (.region 4 (O19 4) false) k (st 41 [(0, x0), (2, x2), (7, x7), (8, x8), (30, x30)]) h =
    bnd (aBinC tab .add 3 x8 (.int .i64 1) true) fun v1 =>
    k .normal (st 41 [(0, x0), (2, x2), (7, x7), (8, v1)]) h
  := by kernel_rfl
theorem r19_4b {β : Type} (call : CallF) (md : Bool) (n : Nat) (k : Ex → List AV → Heap → Option β) (x0 x2 x7 x8 : AV) (h : Heap) :
    runK C0 call md 19 n (.region 4 (O19 4) false) k (st 41 [(0, x0), (2, x2), (7, x7), (8, x8)]) h =
    bnd (aBinC tab .add 3 x8 (.int .i64 1) true) fun v1 =>
    k .normal (st 41 [(0, x0), (2, x2), (7, x7), (8, v1)]) h
  := by kernel_rfl
theorem r19_5 {β : Type} (call : CallF) (md : Bool) (n : Nat) (k : Ex → List AV → Heap → Option β) (x0 x2 x7 x8 x19 : AV) (h : Heap) :
    runK C0 call md 19 n (.region 5 (O19 5) false) k (st 41 [(0, x0), (2, x2), (7, x7), (8, x8), (19, x19)]) h =
    bnd2 (aCall call md (.fn (.func 38) []) [x0, x8] h) fun v1 h2 =>
    bnd (aExtract v1 0) fun v3 =>
    bnd (aExtract v1 1) fun v4 =>
    k .normal (st 41 [(0, x0), (2, x2), (7, x7), (8, x8), (9, v3)]) h2
  := by kernel_rfl
theorem r19_6 {β : Type} (call : CallF) (md : Bool) (n : Nat) (k : Ex → List AV → Heap → Option β) (x0 x2 x7 x8 x9 : AV) (h : Heap) :
    runK C0 call md 19 n (.region 6 (O19 6) false) k (st 41 [(0, x0), (2, x2), (7, x7), (8, x8), (9, x9)]) h =
    bnd2 (aCall call md (.fn (.func 51) []) [x9] h) fun v1 h2 =>
    bnd (aUn .not v1) fun v3 =>
    k .normal (st 41 [(0, x0), (2, x2), (7, x7), (8, x8), (30, v3)]) h2
  := by kernel_rfl
theorem r19_7 {β : Type} (call : CallF) (md : Bool) (n : Nat) (k : Ex → List AV → Heap → Option β) (x0 x2 x7 x8 x30 : AV) (h : Heap) :
    runK C0 call md 19 n (.region 7 (O19 7) false) k (st 41 [(0, x0), (2, x2), (7, x7), (8, x8), (30, x30)]) h =
    bnd2 (aCall call md (.fn (.func 17) []) [x0, x8, .nils] h) fun v1 h2 =>
    k .normal (st 41 [(0, x0), (2, x2), (8, x8), (11, v1)]) h2
  := by kernel_rfl
theorem r19_8 {β : Type} (call : CallF) (md : Bool) (n : Nat) (k : Ex → List AV → Heap → Option β) (x0 x2 x8 x11 : AV) (h : Heap) :
    runK C0 call md 19 n (.region 8 (O19 8) false) k (st 41 [(0, x0), (2, x2), (8, x8), (11, x11)]) h =
    bnd (aBinC tab .neq 27 x11 (.int .i64 0) true) fun v1 =>
    k .normal (st 41 [(0, x0), (2, x2), (8, x8), (11, x11), (35, v1)]) h
  := by kernel_rfl
theorem r19_9 {β : Type} (call : CallF) (md : Bool) (n : Nat) (k : Ex → List AV → Heap → Option β) (x0 x2 x8 x11 x35 : AV) (h : Heap) :
    runK C0 call md 19 n (.region 9 (O19 9) false) k (st 41 [(0, x0), (2, x2), (8, x8), (11, x11), (35, x35)]) h =
    k .normal (st 41 [(6, x11)]) h
  := by kernel_rfl
theorem r19_10 {β : Type} (call : CallF) (md : Bool) (n : Nat) (k : Ex → List AV → Heap → Option β) (x0 x2 x8 x11 x35 : AV) (h : Heap) :
    runK C0 call md 19 n (.region 10 (O19 10) false) k (st 41 [(0, x0), (2, x2), (8, x8), (11, x11), (35, x35)]) h =
    k .normal (st 41 [(0, x0), (2, x2), (7, (.bool true)), (8, x8)]) h
  := by kernel_rfl
theorem r19_11 {β : Type} (call : CallF) (md : Bool) (n : Nat) (k : Ex → List AV → Heap → Option β) (x0 x2 x7 x8 x19 : AV) (h : Heap) :
    runK C0 call md 19 n (.region 11 (O19 11) false) k (st 41 [(0, x0), (2, x2), (7, x7), (8, x8), (19, x19)]) h =
    bnd (aUn .not x7) fun v1 =>
    k .normal (st 41 [(0, x0), (38, v1)]) h
  := by kernel_rfl
theorem r19_12 {β : Type} (call : CallF) (md : Bool) (n : Nat) (k : Ex → List AV → Heap → Option β) (x0 x38 : AV) (h : Heap) :
    runK C0 call md 19 n (.region 12 (O19 12) false) k (st 41 [(0, x0), (38, x38)]) h =
    k .normal (st 41 [(6, (.int .i64 0))]) h
  := by kernel_rfl
theorem r19_13 {β : Type} (call : CallF) (md : Bool) (n : Nat) (k : Ex → List AV → Heap → Option β) (x0 x38 : AV) (h : Heap) :
    runK C0 call md 19 n (.region 13 (O19 13) false) k (st 41 [(0, x0), (38, x38)]) h =
    bnd2 (aCall call md (.fn (.func 18) []) [x0] h) fun v1 h2 =>
    k .normal (st 41 [(6, v1)]) h2
  := by kernel_rfl
end Go.Ax

/- What the regions of some functions hand on. Printed by a program of mine (gen.py). -/
set_option linter.unusedVariables false
namespace Go.Ax
open Go Go.Proofs
/-! ### interregnum/interregnumref01.Fill -/
noncomputable def O21 (i : Nat) : Array Oper := opsOf i (bodyOf Try.f21)
theorem s21 : bodyOf Try.f21 = (.seq (.region 0 (O21 0) false) (.seq (.region 1 (O21 1) false) (.seq (.region 2 (O21 2) false) (.seq (.region 3 (O21 3) false) .ret)))) := by kernel_rfl
theorem e21 : E0 21 = some ⟨9, [2], bodyOf Try.f21⟩ := by kernel_rfl
theorem r21_0 {β : Type} (call : CallF) (md : Bool) (n : Nat) (k : Ex → List AV → Heap → Option β) (x0 : AV) (h : Heap) :
    runK C0 call md 21 n (.region 0 (O21 0) false) k (st 9 [(0, x0)]) h =
    bnd2 (freezeA .nils h) fun v1 h2 =>
    k .normal (st 9 [(0, x0)]) h2
  := by kernel_rfl
theorem r21_1 {β : Type} (call : CallF) (md : Bool) (n : Nat) (k : Ex → List AV → Heap → Option β) (x0 : AV) (h : Heap) :
    runK C0 call md 21 n (.region 1 (O21 1) false) k (st 9 [(0, x0)]) h =
    bnd2 (aMake tab 22 (.int .i64 64) (.int .i64 64) h) fun v1 h2 =>
    k .normal (st 9 [(0, x0), (3, v1)]) h2
  := by kernel_rfl
theorem r21_2 {β : Type} (call : CallF) (md : Bool) (n : Nat) (k : Ex → List AV → Heap → Option β) (x0 x3 : AV) (h : Heap) :
    runK C0 call md 21 n (.region 2 (O21 2) false) k (st 9 [(0, x0), (3, x3)]) h =
    bnd2 (aCpy tab 22 x3 x0 h) fun v1 h2 =>
    k .normal (st 9 [(3, x3)]) h2
  := by kernel_rfl
theorem r21_3 {β : Type} (call : CallF) (md : Bool) (n : Nat) (k : Ex → List AV → Heap → Option β) (x3 : AV) (h : Heap) :
    runK C0 call md 21 n (.region 3 (O21 3) false) k (st 9 [(3, x3)]) h =
    bnd2 (freezeA x3 h) fun v1 h2 =>
    k .normal (st 9 [(2, v1)]) h2
  := by kernel_rfl
end Go.Ax

/- What the regions of some functions hand on. Printed by a program of mine (gen.py). -/
set_option linter.unusedVariables false
namespace Go.Ax
open Go Go.Proofs
/-! ### (*interregnum/sector.Disk).Loose -/
noncomputable def O23 (i : Nat) : Array Oper := opsOf i (bodyOf Try.f23)
theorem s23 : bodyOf Try.f23 = (.seq (.region 0 (O23 0) false) (.seq (.region 1 (O23 1) false) .ret)) := by kernel_rfl
theorem e23 : E0 23 = some ⟨6, [2], bodyOf Try.f23⟩ := by kernel_rfl
theorem r23_0 {β : Type} (call : CallF) (md : Bool) (n : Nat) (k : Ex → List AV → Heap → Option β) (x0 : AV) (h : Heap) :
    runK C0 call md 23 n (.region 0 (O23 0) false) k (st 6 [(0, x0)]) h =
    k .normal (st 6 [(0, x0)]) h
  := by kernel_rfl
theorem r23_1 {β : Type} (call : CallF) (md : Bool) (n : Nat) (k : Ex → List AV → Heap → Option β) (x0 : AV) (h : Heap) :
    runK C0 call md 23 n (.region 1 (O23 1) false) k (st 6 [(0, x0)]) h =
    bnd2 (aCall call md (.fn (.func 53) []) [x0] h) fun v1 h2 =>
    bnd (aLen tab 93 v1) fun v3 =>
    k .normal (st 6 [(2, v3)]) h2
  := by kernel_rfl
end Go.Ax

/- region.Clean, the reference's Fill, Loose: what they compute. -/
namespace Go.Ax
open Go Go.Proofs

/-! ### Fill -/
theorem make22 (h : Heap) : aMake tab 22 (.int .i64 64) (.int .i64 64) h = some (.msl h.length [] 5 0 64, h ++ [.row 5 ((List.replicate 64 (0 : UInt8)).map U8)]) := by kernel_rfl
theorem cpy_row {h : Heap} {x : AV} {l c : List UInt8} (hx : srcElems tab 5 (h ++ [.row 5 (c.map U8)]) x = some (l.map U8)) (hc : c.length = 64) (hl : l.length ≤ 64) :
    aCpy tab 22 (.msl h.length [] 5 0 64) x (h ++ [.row 5 (c.map U8)]) = some (.int .i64 l.length, h ++ [.row 5 ((l ++ c.drop l.length).map U8)]) := by
  simp only [aCpy, td22, tu5, hx, aCopy]
  have e : (l.map U8).take l.length = l.map U8 := List.take_of_length_le (by simp)
  simp [rowGet, rowSet, hc, Nat.min_eq_left hl, e]
theorem frz_row (h : Heap) (c : List UInt8) (hc : c.length = 64) : freezeA (.msl h.length [] 5 0 64) (h ++ [.row 5 (c.map U8)]) = some (.vsl 5 (c.map U8) .none, h ++ [.dead]) := by
  have e : (c.map U8).take 64 = c.map U8 := List.take_of_length_le (by simp [hc])
  simp [freezeA, hc, e]

theorem frz_nils (h : Heap) : freezeA .nils h = some (.nils, h) := rfl

theorem fill_ok {U : Obs} {h : Heap} {x : AV} {b : List UInt8} (hb : By U h x b) (hl : b.length ≤ 64) (k : Nat) :
    ∃ h', exFn C0 E0 (k + 1) false 21 [x] h = some (.vsl 5 ((pad b).map U8) .none, h') ∧ Keep (From h.length) h h' := by
  have n0 : ([x] ++ List.replicate (9 - [x].length) AV.undef) = st 9 [(0, x)] := rfl
  have k1 : Keep (From h.length) h (h ++ [.row 5 ((List.replicate 64 (0 : UInt8)).map U8)]) := Keep.app h _ (Up.fresh h)
  have b1 := hb.keep k1 fun i hi _ hj => Nat.not_le.2 hi hj
  have cp := cpy_row b1.src (by simp) hl
  rw [drop_rep, show b ++ List.replicate (64 - b.length) (0 : UInt8) = pad b from rfl] at cp
  refine ⟨h ++ [.dead], exFn_of e21 ?_, Keep.app h _ (Up.fresh h)⟩
  rw [fnK, n0, s21]
  simp -implicitDefEqProofs only [↓runK_seq, runK_seq, ↓runK_cond, runK_cond, ↓runK_block, runK_block, ↓runK_loop, runK_loop, ↓runK_skip, runK_skip, ↓runK_ret, runK_ret, ↓runK_exit, runK_exit, ↓seqE_n, seqE_n, ↓seqE_e, seqE_e, ↓seqE_r, seqE_r, ↓blkE_n, blkE_n, ↓blkE_e, blkE_e, ↓blkE_r, blkE_r, ↓retK_n, retK_n, ↓retK_r, retK_r, ↓aCall_fn, aCall_fn, ↓bnd_s, bnd_s, ↓bnd2_s, bnd2_s, ↓onB_t, onB_t, ↓onB_f, onB_f, ↓onG_tt, onG_tt, ↓onG_tf, onG_tf, ↓onG_ft, onG_ft, ↓onG_ff, onG_ff, ↓onG_s, onG_s, ↓onT_t, onT_t, ↓aPick_t, aPick_t, ↓aPick_f, aPick_f, decide_true, decide_false, st_tmp, results1, results2, List.lookup_cons, List.lookup_nil, Nat.reduceBEq, Bool.false_eq_true, ↓reduceIte, BEq.rfl, Nat.reduceLT, Option.getD_some, Option.getD_none, ↓r21_0, r21_0, ↓r21_1, r21_1, ↓r21_2, r21_2, ↓r21_3, r21_3, frz_nils, make22, cp, frz_row h (pad b) (by simp [pad]; omega)]

/-! ### Loose -/
theorem loose_ok {S : Obs} {p r : Nat} {h : Heap} {d : Dk} (D : Dsk S h p r d) (hl : d.loose.length < 2 ^ 30) (k : Nat) (hk : d.loose.length < k) :
    ∃ h', exFn C0 E0 (k + 2) false 23 [dp p] h = some (.int .i64 d.loose.length, h') ∧ Keep (From h.length) h h' := by
  obtain ⟨x, h', h1, h2, h3⟩ := pending_ok D hl k hk
  have n0 : ([dp p] ++ List.replicate (6 - [dp p].length) AV.undef) = st 6 [(0, dp p)] := rfl
  have hlen := len93 h2
  simp only [List.length_map] at hlen
  refine ⟨h', exFn_of e23 ?_, h3⟩
  rw [fnK, n0, s23]
  simp -implicitDefEqProofs only [↓runK_seq, runK_seq, ↓runK_cond, runK_cond, ↓runK_block, runK_block, ↓runK_loop, runK_loop, ↓runK_skip, runK_skip, ↓runK_ret, runK_ret, ↓runK_exit, runK_exit, ↓seqE_n, seqE_n, ↓seqE_e, seqE_e, ↓seqE_r, seqE_r, ↓blkE_n, blkE_n, ↓blkE_e, blkE_e, ↓blkE_r, blkE_r, ↓retK_n, retK_n, ↓retK_r, retK_r, ↓aCall_fn, aCall_fn, ↓bnd_s, bnd_s, ↓bnd2_s, bnd2_s, ↓onB_t, onB_t, ↓onB_f, onB_f, ↓onG_tt, onG_tt, ↓onG_tf, onG_tf, ↓onG_ft, onG_ft, ↓onG_ff, onG_ff, ↓onG_s, onG_s, ↓onT_t, onT_t, ↓aPick_t, aPick_t, ↓aPick_f, aPick_f, decide_true, decide_false, st_tmp, results1, results2, List.lookup_cons, List.lookup_nil, Nat.reduceBEq, Bool.false_eq_true, ↓reduceIte, BEq.rfl, Nat.reduceLT, Option.getD_some, Option.getD_none, ↓r23_0, r23_0, ↓r23_1, r23_1, h1, hlen]

/-! ### Clean -/
/-- Clean's sectors from i on, m of them: an error (0: none), whether something was written, the disk then. -/
def cleanLoop : Nat → Nat → Bool → Dk → Int × Bool × Dk
  | 0, _, s, d => (0, s, d)
  | m + 1, i, s, d =>
    if ((d.now[i]?).getD []).all (· == 0) then cleanLoop m (i + 1) s d
    else if (d.write i []).1 = 0 then cleanLoop m (i + 1) true (d.write i []).2
    else ((d.write i []).1, s, (d.write i []).2)

theorem cleanLoop_zero (i : Nat) (s : Bool) (d : Dk) : cleanLoop 0 i s d = (0, s, d) := rfl
theorem cleanLoop_blank {m i : Nat} {s : Bool} {d : Dk} (h : ((d.now[i]?).getD []).all (· == 0) = true) : cleanLoop (m + 1) i s d = cleanLoop m (i + 1) s d := if_pos h
theorem cleanLoop_go {m i : Nat} {s : Bool} {d : Dk} (h : ((d.now[i]?).getD []).all (· == 0) = false) (h2 : (d.write i []).1 = 0) : cleanLoop (m + 1) i s d = cleanLoop m (i + 1) true (d.write i []).2 := by
  rw [cleanLoop, if_neg (by simp [h]), if_pos h2]
theorem cleanLoop_no {m i : Nat} {s : Bool} {d : Dk} (h : ((d.now[i]?).getD []).all (· == 0) = false) (h2 : (d.write i []).1 ≠ 0) : cleanLoop (m + 1) i s d = ((d.write i []).1, s, (d.write i []).2) := by
  rw [cleanLoop, if_neg (by simp [h]), if_neg h2]

theorem cleanLoop_loose : ∀ (m i : Nat) (s : Bool) (d : Dk), (cleanLoop m i s d).2.2.loose.length ≤ d.loose.length + m ∧ (cleanLoop m i s d).2.2.fuse ≤ d.fuse ∧ (cleanLoop m i s d).2.2.lasts.length = d.lasts.length := by
  intro m
  induction m with
  | zero => intro i s d; simp [cleanLoop]
  | succ m ih =>
    intro i s d
    cases hz : ((d.now[i]?).getD []).all (· == 0)
    · by_cases hw : (d.write i []).1 = 0
      · rw [cleanLoop_go hz hw]
        have := ih (i + 1) true (d.write i []).2
        have h1 := write_loose d i []
        have h2 := write_fuse d i []
        have h3 := write_len d i []
        omega
      · rw [cleanLoop_no hz hw]
        have h1 := write_loose d i []
        have h2 := write_fuse d i []
        have h3 := write_len d i []
        simp only
        omega
    · rw [cleanLoop_blank hz]
      have := ih (i + 1) s d
      omega

theorem clean_loop {S : Obs} {p r : Nat} (e : Int) (N : Nat) :
    ∀ (m i n : Nat) (s : Bool) (d : Dk) (h : Heap), m = (min e d.lasts.length - i).toNat → m < n → Up S h → Dsk S h p r d → d.loose.length + m < 2 ^ 29 → d.loose.length + m + 10 < N → d.fuse < 2 ^ 63 →
    ∃ h' j, (∀ K : Ex → List AV → Heap → Option (AV × Heap), loopK (fun next => runK C0 (exFn C0 E0 (N + 3)) false 19 (N + 3) B19_1 (seqE next K)) n (st 41 [(0, dp p), (2, .int .i64 e), (7, .bool s), (8, .int .i64 i)]) h =
      if (cleanLoop m i s d).1 = 0 then K (.exit 0) (st 41 [(0, dp p), (2, .int .i64 e), (7, .bool (cleanLoop m i s d).2.1), (8, j), (19, .bool false)]) h'
      else K .ret (st 41 [(6, .int .i64 (cleanLoop m i s d).1)]) h') ∧
      Dsk S h' p r (cleanLoop m i s d).2.2 ∧ Keep S h h' := by
  intro m
  induction m with
  | zero =>
    intro i n s d h hm hn up D hl hN hf
    obtain ⟨n, rfl⟩ : ∃ j, n = j + 1 := ⟨n - 1, by omega⟩
    rw [cleanLoop_zero]
    refine ⟨h, .int .i64 i, fun K => ?_, D, Keep.refl _ _⟩
    rw [if_pos rfl, loopK_succ]
    generalize loopK (_ : (List AV → Heap → Option (AV × Heap)) → List AV → Heap → Option (AV × Heap)) n = Lp
    have lk := len_ok D false (N + 2)
    have e1 : decide ((i : Int) < (if ((d.lasts.length : Nat) : Int) < e then ((d.lasts.length : Nat) : Int) else e)) = false := decide_eq_false (by split <;> omega)
    simp -implicitDefEqProofs only [B19_1, ↓runK_seq, runK_seq, ↓runK_cond, runK_cond, ↓runK_block, runK_block, ↓runK_loop, runK_loop, ↓runK_skip, runK_skip, ↓runK_ret, runK_ret, ↓runK_exit, runK_exit, ↓seqE_n, seqE_n, ↓seqE_e, seqE_e, ↓seqE_r, seqE_r, ↓blkE_n, blkE_n, ↓blkE_e, blkE_e, ↓blkE_r, blkE_r, ↓retK_n, retK_n, ↓retK_r, retK_r, ↓aCall_fn, aCall_fn, ↓bnd_s, bnd_s, ↓bnd2_s, bnd2_s, ↓onB_t, onB_t, ↓onB_f, onB_f, ↓onG_tt, onG_tt, ↓onG_tf, onG_tf, ↓onG_ft, onG_ft, ↓onG_ff, onG_ff, ↓onG_s, onG_s, ↓onT_t, onT_t, ↓aPick_t, aPick_t, ↓aPick_f, aPick_f, decide_true, decide_false, st_tmp, results1, results2, List.lookup_cons, List.lookup_nil, Nat.reduceBEq, Bool.false_eq_true, ↓reduceIte, BEq.rfl, Nat.reduceLT, Option.getD_some, Option.getD_none, ↓r19_0, r19_0, ↓r19_1, r19_1, ↓r19_2, r19_2, ↓r19_3, r19_3, ↓r19_4a, r19_4a, ↓r19_4b, r19_4b, ↓r19_5, r19_5, ↓r19_6, r19_6, ↓r19_7, r19_7, ↓r19_8, r19_8, ↓r19_9, r19_9, ↓r19_10, r19_10, ↓r19_11, r19_11, ↓r19_12, r19_12, ↓r19_13, r19_13, lk, min2_i64, bin_lss, e1]
  | succ m ih =>
    intro i n s d h hm hn up D hl hN hf
    obtain ⟨n, rfl⟩ : ∃ j, n = j + 1 := ⟨n - 1, by omega⟩
    have hfew := D.few
    have lk := len_ok D false (N + 2)
    have e1 : decide ((i : Int) < (if ((d.lasts.length : Nat) : Int) < e then ((d.lasts.length : Nat) : Int) else e)) = true := decide_eq_true (by split <;> omega)
    have hlt : i < d.now.length := by rw [D.now_length]; omega
    have wr : IntKind.i64.wrap ((i : Int) + 1) = ((i + 1 : Nat) : Int) := by rw [wrap_i64] <;> omega
    obtain ⟨y, h1, r1, r2, r3⟩ := read_ok D (by omega) (i : Int) (N + 2) (by omega)
    have hrd : d.read (i : Int) = ((d.now[i]?).getD [], 0) := by
      unfold Dk.read
      rw [if_pos ⟨by omega, by rw [D.now_length] at hlt; omega⟩, Int.toNat_natCast]
    rw [hrd] at r1 r2
    have bs : Bs y ((d.now[i]?).getD []) := r2.bs
    have D1 := D.fresh r3
    have up1 := up.keep r3
    have z1 := zero_ok bs false h1 N
    cases hz : ((d.now[i]?).getD []).all (· == 0)
    · rw [hz] at z1
      obtain ⟨h2, w1, D2, k2⟩ := write_ok D1 up1 (i : Int) (x := .nils) (b := []) (U := fun _ => False) (.inl (.inl ⟨rfl, rfl⟩)) (fun _ _ h => h.elim) (by omega) hf N
      have a1 := write_loose d i []
      have a2 := write_fuse d i []
      have a3 := write_len d i []
      have kk := (r3.up up).trans k2
      by_cases hw : (d.write i []).1 = 0
      · rw [cleanLoop_go hz hw]
        obtain ⟨h3, j, g1, g2, g3⟩ := ih (i + 1) n true _ h2 (by omega) (by omega) (up1.keep k2) D2 (by omega) (by omega) (by omega)
        refine ⟨h3, j, fun K => ?_, g2, kk.trans g3⟩
        rw [loopK_succ, ← g1 K]
        generalize loopK (_ : (List AV → Heap → Option (AV × Heap)) → List AV → Heap → Option (AV × Heap)) n = Lp
        rw [hw] at w1
        have c0 : decide ((0 : Int) ≠ 0) = false := by decide
        simp -implicitDefEqProofs only [B19_1, ↓runK_seq, runK_seq, ↓runK_cond, runK_cond, ↓runK_block, runK_block, ↓runK_loop, runK_loop, ↓runK_skip, runK_skip, ↓runK_ret, runK_ret, ↓runK_exit, runK_exit, ↓seqE_n, seqE_n, ↓seqE_e, seqE_e, ↓seqE_r, seqE_r, ↓blkE_n, blkE_n, ↓blkE_e, blkE_e, ↓blkE_r, blkE_r, ↓retK_n, retK_n, ↓retK_r, retK_r, ↓aCall_fn, aCall_fn, ↓bnd_s, bnd_s, ↓bnd2_s, bnd2_s, ↓onB_t, onB_t, ↓onB_f, onB_f, ↓onG_tt, onG_tt, ↓onG_tf, onG_tf, ↓onG_ft, onG_ft, ↓onG_ff, onG_ff, ↓onG_s, onG_s, ↓onT_t, onT_t, ↓aPick_t, aPick_t, ↓aPick_f, aPick_f, decide_true, decide_false, st_tmp, results1, results2, List.lookup_cons, List.lookup_nil, Nat.reduceBEq, Bool.false_eq_true, ↓reduceIte, BEq.rfl, Nat.reduceLT, Option.getD_some, Option.getD_none, ↓r19_0, r19_0, ↓r19_1, r19_1, ↓r19_2, r19_2, ↓r19_3, r19_3, ↓r19_4a, r19_4a, ↓r19_4b, r19_4b, ↓r19_5, r19_5, ↓r19_6, r19_6, ↓r19_7, r19_7, ↓r19_8, r19_8, ↓r19_9, r19_9, ↓r19_10, r19_10, ↓r19_11, r19_11, ↓r19_12, r19_12, ↓r19_13, r19_13, lk, min2_i64, bin_lss, e1, r1, ext0, ext1, z1, un_not, Bool.not_false, w1, neq27, c0, bin_add, wr]
      · rw [cleanLoop_no hz hw]
        refine ⟨h2, .undef, fun K => ?_, D2, kk⟩
        rw [if_neg hw, loopK_succ]
        generalize loopK (_ : (List AV → Heap → Option (AV × Heap)) → List AV → Heap → Option (AV × Heap)) n = Lp
        have c0 : decide ((d.write (i : Int) []).1 ≠ 0) = true := decide_eq_true hw
        simp -implicitDefEqProofs only [B19_1, ↓runK_seq, runK_seq, ↓runK_cond, runK_cond, ↓runK_block, runK_block, ↓runK_loop, runK_loop, ↓runK_skip, runK_skip, ↓runK_ret, runK_ret, ↓runK_exit, runK_exit, ↓seqE_n, seqE_n, ↓seqE_e, seqE_e, ↓seqE_r, seqE_r, ↓blkE_n, blkE_n, ↓blkE_e, blkE_e, ↓blkE_r, blkE_r, ↓retK_n, retK_n, ↓retK_r, retK_r, ↓aCall_fn, aCall_fn, ↓bnd_s, bnd_s, ↓bnd2_s, bnd2_s, ↓onB_t, onB_t, ↓onB_f, onB_f, ↓onG_tt, onG_tt, ↓onG_tf, onG_tf, ↓onG_ft, onG_ft, ↓onG_ff, onG_ff, ↓onG_s, onG_s, ↓onT_t, onT_t, ↓aPick_t, aPick_t, ↓aPick_f, aPick_f, decide_true, decide_false, st_tmp, results1, results2, List.lookup_cons, List.lookup_nil, Nat.reduceBEq, Bool.false_eq_true, ↓reduceIte, BEq.rfl, Nat.reduceLT, Option.getD_some, Option.getD_none, ↓r19_0, r19_0, ↓r19_1, r19_1, ↓r19_2, r19_2, ↓r19_3, r19_3, ↓r19_4a, r19_4a, ↓r19_4b, r19_4b, ↓r19_5, r19_5, ↓r19_6, r19_6, ↓r19_7, r19_7, ↓r19_8, r19_8, ↓r19_9, r19_9, ↓r19_10, r19_10, ↓r19_11, r19_11, ↓r19_12, r19_12, ↓r19_13, r19_13, lk, min2_i64, bin_lss, e1, r1, ext0, ext1, z1, un_not, Bool.not_false, w1, neq27, c0]
    · rw [hz] at z1
      rw [cleanLoop_blank hz]
      obtain ⟨h3, j, g1, g2, g3⟩ := ih (i + 1) n s d h1 (by omega) (by omega) up1 D1 (by omega) (by omega) hf
      refine ⟨h3, j, fun K => ?_, g2, (r3.up up).trans g3⟩
      rw [loopK_succ, ← g1 K]
      generalize loopK (_ : (List AV → Heap → Option (AV × Heap)) → List AV → Heap → Option (AV × Heap)) n = Lp
      simp -implicitDefEqProofs only [B19_1, ↓runK_seq, runK_seq, ↓runK_cond, runK_cond, ↓runK_block, runK_block, ↓runK_loop, runK_loop, ↓runK_skip, runK_skip, ↓runK_ret, runK_ret, ↓runK_exit, runK_exit, ↓seqE_n, seqE_n, ↓seqE_e, seqE_e, ↓seqE_r, seqE_r, ↓blkE_n, blkE_n, ↓blkE_e, blkE_e, ↓blkE_r, blkE_r, ↓retK_n, retK_n, ↓retK_r, retK_r, ↓aCall_fn, aCall_fn, ↓bnd_s, bnd_s, ↓bnd2_s, bnd2_s, ↓onB_t, onB_t, ↓onB_f, onB_f, ↓onG_tt, onG_tt, ↓onG_tf, onG_tf, ↓onG_ft, onG_ft, ↓onG_ff, onG_ff, ↓onG_s, onG_s, ↓onT_t, onT_t, ↓aPick_t, aPick_t, ↓aPick_f, aPick_f, decide_true, decide_false, st_tmp, results1, results2, List.lookup_cons, List.lookup_nil, Nat.reduceBEq, Bool.false_eq_true, ↓reduceIte, BEq.rfl, Nat.reduceLT, Option.getD_some, Option.getD_none, ↓r19_0, r19_0, ↓r19_1, r19_1, ↓r19_2, r19_2, ↓r19_3, r19_3, ↓r19_4a, r19_4a, ↓r19_4b, r19_4b, ↓r19_5, r19_5, ↓r19_6, r19_6, ↓r19_7, r19_7, ↓r19_8, r19_8, ↓r19_9, r19_9, ↓r19_10, r19_10, ↓r19_11, r19_11, ↓r19_12, r19_12, ↓r19_13, r19_13, lk, min2_i64, bin_lss, e1, r1, ext0, ext1, z1, un_not, Bool.not_true, bin_add, wr]

def Dk.clean (d : Dk) (a e : Int) : Int × Dk :=
  let r := cleanLoop (min e d.lasts.length - max a 0).toNat (max a 0).toNat false d
  if r.1 ≠ 0 then (r.1, r.2.2) else if r.2.1 then r.2.2.flush else (0, r.2.2)

theorem clean_ok {S : Obs} {p r : Nat} {h : Heap} {d : Dk} (D : Dsk S h p r d) (up : Up S h) (hl : d.loose.length < 2 ^ 28) (hf : d.fuse < 2 ^ 63) (a e : Int) (k : Nat) (hk : d.loose.length + 9000 < k) :
    ∃ h', exFn C0 E0 (k + 1) false 19 [dp p, .int .i64 a, .int .i64 e] h = some (.int .i64 (d.clean a e).1, h') ∧ Dsk S h' p r (d.clean a e).2 ∧ Keep S h h' := by
  obtain ⟨k, rfl⟩ : ∃ j, k = j + 3 := ⟨k - 3, by omega⟩
  have hfew := D.few
  have n0 : ([dp p, .int .i64 a, .int .i64 e] ++ List.replicate (41 - [dp p, AV.int .i64 a, .int .i64 e].length) AV.undef) = st 41 [(0, dp p), (1, .int .i64 a), (2, .int .i64 e)] := rfl
  have mx : (if a < 0 then 0 else a) = (((max a 0).toNat : Nat) : Int) := by split <;> omega
  have hcl := cleanLoop_loose (min e d.lasts.length - max a 0).toNat (max a 0).toNat false d
  obtain ⟨h1, j, f1, f2, f3⟩ := clean_loop (S := S) (p := p) (r := r) e k (min e d.lasts.length - max a 0).toNat (max a 0).toNat (k + 3) false d h (by omega) (by omega) up D (by omega) (by omega) hf
  unfold Dk.clean
  generalize hL : cleanLoop (min e d.lasts.length - max a 0).toNat (max a 0).toNat false d = L at *
  obtain ⟨le, ls, ld⟩ := L
  simp only at f1 f2 hcl ⊢
  by_cases z1 : le = 0
  · subst z1
    rw [if_neg (fun h => h rfl)]
    simp only [if_true] at f1
    cases ls
    · rw [if_neg Bool.false_ne_true]
      refine ⟨h1, exFn_of e19 ?_, f2, f3⟩
      rw [fnK, n0, s19]
      simp -implicitDefEqProofs only [↓runK_seq, runK_seq, ↓runK_cond, runK_cond, ↓runK_block, runK_block, ↓runK_loop, runK_loop, ↓runK_skip, runK_skip, ↓runK_ret, runK_ret, ↓runK_exit, runK_exit, ↓seqE_n, seqE_n, ↓seqE_e, seqE_e, ↓seqE_r, seqE_r, ↓blkE_n, blkE_n, ↓blkE_e, blkE_e, ↓blkE_r, blkE_r, ↓retK_n, retK_n, ↓retK_r, retK_r, ↓aCall_fn, aCall_fn, ↓bnd_s, bnd_s, ↓bnd2_s, bnd2_s, ↓onB_t, onB_t, ↓onB_f, onB_f, ↓onG_tt, onG_tt, ↓onG_tf, onG_tf, ↓onG_ft, onG_ft, ↓onG_ff, onG_ff, ↓onG_s, onG_s, ↓onT_t, onT_t, ↓aPick_t, aPick_t, ↓aPick_f, aPick_f, decide_true, decide_false, st_tmp, results1, results2, List.lookup_cons, List.lookup_nil, Nat.reduceBEq, Bool.false_eq_true, ↓reduceIte, BEq.rfl, Nat.reduceLT, Option.getD_some, Option.getD_none, ↓r19_0, r19_0, ↓r19_1, r19_1, ↓r19_2, r19_2, ↓r19_3, r19_3, ↓r19_4a, r19_4a, ↓r19_4b, r19_4b, ↓r19_5, r19_5, ↓r19_6, r19_6, ↓r19_7, r19_7, ↓r19_8, r19_8, ↓r19_9, r19_9, ↓r19_10, r19_10, ↓r19_11, r19_11, ↓r19_12, r19_12, ↓r19_13, r19_13, max2_i64, mx]
      rw [f1]
      simp -implicitDefEqProofs only [↓runK_seq, runK_seq, ↓runK_cond, runK_cond, ↓runK_block, runK_block, ↓runK_loop, runK_loop, ↓runK_skip, runK_skip, ↓runK_ret, runK_ret, ↓runK_exit, runK_exit, ↓seqE_n, seqE_n, ↓seqE_e, seqE_e, ↓seqE_r, seqE_r, ↓blkE_n, blkE_n, ↓blkE_e, blkE_e, ↓blkE_r, blkE_r, ↓retK_n, retK_n, ↓retK_r, retK_r, ↓aCall_fn, aCall_fn, ↓bnd_s, bnd_s, ↓bnd2_s, bnd2_s, ↓onB_t, onB_t, ↓onB_f, onB_f, ↓onG_tt, onG_tt, ↓onG_tf, onG_tf, ↓onG_ft, onG_ft, ↓onG_ff, onG_ff, ↓onG_s, onG_s, ↓onT_t, onT_t, ↓aPick_t, aPick_t, ↓aPick_f, aPick_f, decide_true, decide_false, st_tmp, results1, results2, List.lookup_cons, List.lookup_nil, Nat.reduceBEq, Bool.false_eq_true, ↓reduceIte, BEq.rfl, Nat.reduceLT, Option.getD_some, Option.getD_none, ↓r19_0, r19_0, ↓r19_1, r19_1, ↓r19_2, r19_2, ↓r19_3, r19_3, ↓r19_4a, r19_4a, ↓r19_4b, r19_4b, ↓r19_5, r19_5, ↓r19_6, r19_6, ↓r19_7, r19_7, ↓r19_8, r19_8, ↓r19_9, r19_9, ↓r19_10, r19_10, ↓r19_11, r19_11, ↓r19_12, r19_12, ↓r19_13, r19_13, un_not, Bool.not_false]
    · rw [if_pos rfl]
      obtain ⟨h2, g1, g2, g3⟩ := flush_ok f2 (up.keep f3) (by omega) (by omega) false (k + 2) (by omega)
      refine ⟨h2, exFn_of e19 ?_, g2, f3.trans g3⟩
      rw [fnK, n0, s19]
      simp -implicitDefEqProofs only [↓runK_seq, runK_seq, ↓runK_cond, runK_cond, ↓runK_block, runK_block, ↓runK_loop, runK_loop, ↓runK_skip, runK_skip, ↓runK_ret, runK_ret, ↓runK_exit, runK_exit, ↓seqE_n, seqE_n, ↓seqE_e, seqE_e, ↓seqE_r, seqE_r, ↓blkE_n, blkE_n, ↓blkE_e, blkE_e, ↓blkE_r, blkE_r, ↓retK_n, retK_n, ↓retK_r, retK_r, ↓aCall_fn, aCall_fn, ↓bnd_s, bnd_s, ↓bnd2_s, bnd2_s, ↓onB_t, onB_t, ↓onB_f, onB_f, ↓onG_tt, onG_tt, ↓onG_tf, onG_tf, ↓onG_ft, onG_ft, ↓onG_ff, onG_ff, ↓onG_s, onG_s, ↓onT_t, onT_t, ↓aPick_t, aPick_t, ↓aPick_f, aPick_f, decide_true, decide_false, st_tmp, results1, results2, List.lookup_cons, List.lookup_nil, Nat.reduceBEq, Bool.false_eq_true, ↓reduceIte, BEq.rfl, Nat.reduceLT, Option.getD_some, Option.getD_none, ↓r19_0, r19_0, ↓r19_1, r19_1, ↓r19_2, r19_2, ↓r19_3, r19_3, ↓r19_4a, r19_4a, ↓r19_4b, r19_4b, ↓r19_5, r19_5, ↓r19_6, r19_6, ↓r19_7, r19_7, ↓r19_8, r19_8, ↓r19_9, r19_9, ↓r19_10, r19_10, ↓r19_11, r19_11, ↓r19_12, r19_12, ↓r19_13, r19_13, max2_i64, mx]
      rw [f1]
      simp -implicitDefEqProofs only [↓runK_seq, runK_seq, ↓runK_cond, runK_cond, ↓runK_block, runK_block, ↓runK_loop, runK_loop, ↓runK_skip, runK_skip, ↓runK_ret, runK_ret, ↓runK_exit, runK_exit, ↓seqE_n, seqE_n, ↓seqE_e, seqE_e, ↓seqE_r, seqE_r, ↓blkE_n, blkE_n, ↓blkE_e, blkE_e, ↓blkE_r, blkE_r, ↓retK_n, retK_n, ↓retK_r, retK_r, ↓aCall_fn, aCall_fn, ↓bnd_s, bnd_s, ↓bnd2_s, bnd2_s, ↓onB_t, onB_t, ↓onB_f, onB_f, ↓onG_tt, onG_tt, ↓onG_tf, onG_tf, ↓onG_ft, onG_ft, ↓onG_ff, onG_ff, ↓onG_s, onG_s, ↓onT_t, onT_t, ↓aPick_t, aPick_t, ↓aPick_f, aPick_f, decide_true, decide_false, st_tmp, results1, results2, List.lookup_cons, List.lookup_nil, Nat.reduceBEq, Bool.false_eq_true, ↓reduceIte, BEq.rfl, Nat.reduceLT, Option.getD_some, Option.getD_none, ↓r19_0, r19_0, ↓r19_1, r19_1, ↓r19_2, r19_2, ↓r19_3, r19_3, ↓r19_4a, r19_4a, ↓r19_4b, r19_4b, ↓r19_5, r19_5, ↓r19_6, r19_6, ↓r19_7, r19_7, ↓r19_8, r19_8, ↓r19_9, r19_9, ↓r19_10, r19_10, ↓r19_11, r19_11, ↓r19_12, r19_12, ↓r19_13, r19_13, un_not, Bool.not_true, g1]
  · rw [if_pos z1]
    refine ⟨h1, exFn_of e19 ?_, f2, f3⟩
    rw [fnK, n0, s19]
    simp -implicitDefEqProofs only [↓runK_seq, runK_seq, ↓runK_cond, runK_cond, ↓runK_block, runK_block, ↓runK_loop, runK_loop, ↓runK_skip, runK_skip, ↓runK_ret, runK_ret, ↓runK_exit, runK_exit, ↓seqE_n, seqE_n, ↓seqE_e, seqE_e, ↓seqE_r, seqE_r, ↓blkE_n, blkE_n, ↓blkE_e, blkE_e, ↓blkE_r, blkE_r, ↓retK_n, retK_n, ↓retK_r, retK_r, ↓aCall_fn, aCall_fn, ↓bnd_s, bnd_s, ↓bnd2_s, bnd2_s, ↓onB_t, onB_t, ↓onB_f, onB_f, ↓onG_tt, onG_tt, ↓onG_tf, onG_tf, ↓onG_ft, onG_ft, ↓onG_ff, onG_ff, ↓onG_s, onG_s, ↓onT_t, onT_t, ↓aPick_t, aPick_t, ↓aPick_f, aPick_f, decide_true, decide_false, st_tmp, results1, results2, List.lookup_cons, List.lookup_nil, Nat.reduceBEq, Bool.false_eq_true, ↓reduceIte, BEq.rfl, Nat.reduceLT, Option.getD_some, Option.getD_none, ↓r19_0, r19_0, ↓r19_1, r19_1, ↓r19_2, r19_2, ↓r19_3, r19_3, ↓r19_4a, r19_4a, ↓r19_4b, r19_4b, ↓r19_5, r19_5, ↓r19_6, r19_6, ↓r19_7, r19_7, ↓r19_8, r19_8, ↓r19_9, r19_9, ↓r19_10, r19_10, ↓r19_11, r19_11, ↓r19_12, r19_12, ↓r19_13, r19_13, max2_i64, mx]
    rw [f1, if_neg z1]
    simp -implicitDefEqProofs only [↓runK_seq, runK_seq, ↓runK_cond, runK_cond, ↓runK_block, runK_block, ↓runK_loop, runK_loop, ↓runK_skip, runK_skip, ↓runK_ret, runK_ret, ↓runK_exit, runK_exit, ↓seqE_n, seqE_n, ↓seqE_e, seqE_e, ↓seqE_r, seqE_r, ↓blkE_n, blkE_n, ↓blkE_e, blkE_e, ↓blkE_r, blkE_r, ↓retK_n, retK_n, ↓retK_r, retK_r, ↓aCall_fn, aCall_fn, ↓bnd_s, bnd_s, ↓bnd2_s, bnd2_s, ↓onB_t, onB_t, ↓onB_f, onB_f, ↓onG_tt, onG_tt, ↓onG_tf, onG_tf, ↓onG_ft, onG_ft, ↓onG_ff, onG_ff, ↓onG_s, onG_s, ↓onT_t, onT_t, ↓aPick_t, aPick_t, ↓aPick_f, aPick_f, decide_true, decide_false, st_tmp, results1, results2, List.lookup_cons, List.lookup_nil, Nat.reduceBEq, Bool.false_eq_true, ↓reduceIte, BEq.rfl, Nat.reduceLT, Option.getD_some, Option.getD_none]
end Go.Ax

/- What the regions of some functions hand on. Printed by a program of mine (gen.py). -/
set_option linter.unusedVariables false
namespace Go.Ax
open Go Go.Proofs
/-! ### (*interregnum/interregnumref01.Disk).Write -/
noncomputable def O54 (i : Nat) : Array Oper := opsOf i (bodyOf Try.f54)
theorem s54 : bodyOf Try.f54 = (.seq (.region 0 (O54 0) false) (.seq (.seq (.region 1 (O54 1) false) (.cond (Go.Operand.tmp 22) (.seq (.region 2 (O54 2) false) .ret) .skip)) (.seq (.seq (.region 3 (O54 3) false) (.cond (Go.Operand.tmp 33) (.seq (.region 4 (O54 4) false) (.seq (.region 5 (O54 5) false) .ret)) .skip)) (.seq (.seq (.region 6 (O54 6) false) (.cond (Go.Operand.tmp 41) (.region 7 (O54 7) false) .skip)) (.seq (.region 8 (O54 8) true) (.seq (.region 9 (O54 9) false) .ret)))))) := by kernel_rfl
theorem e54 : E0 54 = some ⟨62, [6], bodyOf Try.f54⟩ := by kernel_rfl
theorem r54_0 {β : Type} (call : CallF) (md : Bool) (n : Nat) (k : Ex → List AV → Heap → Option β) (x0 x1 x2 : AV) (h : Heap) :
    runK C0 call md 54 n (.region 0 (O54 0) false) k (st 62 [(0, x0), (1, x1), (2, x2)]) h =
    k .normal (st 62 [(0, x0), (1, x1), (2, x2)]) h
  := by kernel_rfl
def J54_1_4 {β : Type} (call : CallF) (md : Bool) (k : Ex → List AV → Heap → Option β) (x0 x1 x2 x18 x21 : AV) (h : Heap) : Option β :=
    bnd (aPick x18 (.bool true) x21) fun v1 =>
    k .normal (st 62 [(0, x0), (1, x1), (2, x2), (22, v1)]) h

theorem j54_1_4 {β : Type} (call : CallF) (md : Bool) (k : Ex → List AV → Heap → Option β) (x0 x1 x2 x7 x8 x9 x10 x11 x12 x13 x14 x15 x16 x17 x18 x19 x20 x21 : AV) (h : Heap) :
    opsK C0 call md 54 (O54 1) ((O54 1).toList.drop 15) (st 62 [(0, x0), (1, x1), (2, x2), (7, x7), (8, x8), (9, x9), (10, x10), (11, x11), (12, x12), (13, x13), (14, x14), (15, x15), (16, x16), (17, x17), (18, x18), (19, x19), (20, x20), (21, x21)]) h (fun tm h => k .normal (clr (C0.keep 54 1) tm) h) = J54_1_4 call md k x0 x1 x2 x18 x21 h := by kernel_rfl
def J54_1_3 {β : Type} (call : CallF) (md : Bool) (k : Ex → List AV → Heap → Option β) (x0 x1 x2 x18 : AV) (h : Heap) : Option β :=
    onG false x18 (
      bnd (aLen tab 22 x2) fun v3 =>
      bnd (aBinC tab .gtr 3 v3 (.int .i64 64) true) fun v4 =>
      J54_1_4 call md k x0 x1 x2 x18 v4 h) (
      J54_1_4 call md k x0 x1 x2 x18 .skip h)

theorem g54_1_3 {β : Type} (call : CallF) (md : Bool) (kk : List AV → Heap → Option β) (x0 x1 x2 x7 x8 x9 x10 x11 x12 x13 x14 x15 x16 x17 x18 : AV) (h : Heap) :
    opsK C0 call md 54 (O54 1) (((O54 1).toList.drop 12).take 3) (st 62 [(0, x0), (1, x1), (2, x2), (7, x7), (8, x8), (9, x9), (10, x10), (11, x11), (12, x12), (13, x13), (14, x14), (15, x15), (16, x16), (17, x17), (18, x18)]) h kk =
    onG false x18 (
      bnd (aLen tab 22 x2) fun v5 =>
      bnd (aBinC tab .gtr 3 v5 (.int .i64 64) true) fun v6 =>
      kk (st 62 [(0, x0), (1, x1), (2, x2), (7, x7), (8, x8), (9, x9), (10, x10), (11, x11), (12, x12), (13, x13), (14, x14), (15, x15), (16, x16), (17, x17), (18, x18), (19, x2), (20, v5), (21, v6)]) h) (
      kk (st 62 [(0, x0), (1, x1), (2, x2), (7, x7), (8, x8), (9, x9), (10, x10), (11, x11), (12, x12), (13, x13), (14, x14), (15, x15), (16, x16), (17, x17), (18, x18), (19, .skip), (20, .skip), (21, .skip)]) h)
  := by cases x18 with | bool b => (cases b <;> kernel_rfl) | _ => kernel_rfl
theorem j54_1_3 {β : Type} (call : CallF) (md : Bool) (k : Ex → List AV → Heap → Option β) (x0 x1 x2 x7 x8 x9 x10 x11 x12 x13 x14 x15 x16 x17 x18 : AV) (h : Heap) :
    opsK C0 call md 54 (O54 1) ((O54 1).toList.drop 12) (st 62 [(0, x0), (1, x1), (2, x2), (7, x7), (8, x8), (9, x9), (10, x10), (11, x11), (12, x12), (13, x13), (14, x14), (15, x15), (16, x16), (17, x17), (18, x18)]) h (fun tm h => k .normal (clr (C0.keep 54 1) tm) h) = J54_1_3 call md k x0 x1 x2 x18 h := by
  have e : ((O54 1).toList.drop 12) = ((O54 1).toList.drop 12).take 3 ++ (O54 1).toList.drop 15 := by kernel_rfl
  rw [show opsK C0 call md 54 (O54 1) ((O54 1).toList.drop 12) = opsK C0 call md 54 (O54 1) (((O54 1).toList.drop 12).take 3 ++ (O54 1).toList.drop 15) from congrArg _ e]
  rw [opsK_append, g54_1_3]
  simp only [j54_1_4]
  rfl
def J54_1_2 {β : Type} (call : CallF) (md : Bool) (k : Ex → List AV → Heap → Option β) (x0 x1 x2 x9 x16 : AV) (h : Heap) : Option β :=
    bnd (aPick x9 (.bool true) x16) fun v7 =>
    J54_1_3 call md k x0 x1 x2 v7 h

theorem g54_1_2 {β : Type} (call : CallF) (md : Bool) (kk : List AV → Heap → Option β) (x0 x1 x2 x7 x8 x9 x10 x11 x12 x13 x14 x15 x16 : AV) (h : Heap) :
    opsK C0 call md 54 (O54 1) (((O54 1).toList.drop 10).take 2) (st 62 [(0, x0), (1, x1), (2, x2), (7, x7), (8, x8), (9, x9), (10, x10), (11, x11), (12, x12), (13, x13), (14, x14), (15, x15), (16, x16)]) h kk =
    bnd (aPick x9 (.bool true) x16) fun v8 =>
    kk (st 62 [(0, x0), (1, x1), (2, x2), (7, x7), (8, x8), (9, x9), (10, x10), (11, x11), (12, x12), (13, x13), (14, x14), (15, x15), (16, x16), (17, v8), (18, v8)]) h
  := by kernel_rfl
theorem j54_1_2 {β : Type} (call : CallF) (md : Bool) (k : Ex → List AV → Heap → Option β) (x0 x1 x2 x7 x8 x9 x10 x11 x12 x13 x14 x15 x16 : AV) (h : Heap) :
    opsK C0 call md 54 (O54 1) ((O54 1).toList.drop 10) (st 62 [(0, x0), (1, x1), (2, x2), (7, x7), (8, x8), (9, x9), (10, x10), (11, x11), (12, x12), (13, x13), (14, x14), (15, x15), (16, x16)]) h (fun tm h => k .normal (clr (C0.keep 54 1) tm) h) = J54_1_2 call md k x0 x1 x2 x9 x16 h := by
  have e : ((O54 1).toList.drop 10) = ((O54 1).toList.drop 10).take 2 ++ (O54 1).toList.drop 12 := by kernel_rfl
  rw [show opsK C0 call md 54 (O54 1) ((O54 1).toList.drop 10) = opsK C0 call md 54 (O54 1) (((O54 1).toList.drop 10).take 2 ++ (O54 1).toList.drop 12) from congrArg _ e]
  rw [opsK_append, g54_1_2]
  simp only [j54_1_3]
  rfl
def J54_1_1 {β : Type} (call : CallF) (md : Bool) (k : Ex → List AV → Heap → Option β) (x0 x1 x2 x9 : AV) (h : Heap) : Option β :=
    onG false x9 (
      bnd (aNil x0) fun v9 =>
      bnd (aFieldAddr tab 74 v9 0) fun v10 =>
      bnd (aLoad tab 30 v10 h) fun v11 =>
      bnd (aLen tab 30 v11) fun v12 =>
      bnd (aBinC tab .geq 3 x1 v12 false) fun v13 =>
      J54_1_2 call md k x0 x1 x2 x9 v13 h) (
      J54_1_2 call md k x0 x1 x2 x9 .skip h)

theorem g54_1_1 {β : Type} (call : CallF) (md : Bool) (kk : List AV → Heap → Option β) (x0 x1 x2 x7 x8 x9 : AV) (h : Heap) :
    opsK C0 call md 54 (O54 1) (((O54 1).toList.drop 3).take 7) (st 62 [(0, x0), (1, x1), (2, x2), (7, x7), (8, x8), (9, x9)]) h kk =
    onG false x9 (
      bnd (aNil x0) fun v14 =>
      bnd (aFieldAddr tab 74 v14 0) fun v15 =>
      bnd (aLoad tab 30 v15 h) fun v16 =>
      bnd (aLen tab 30 v16) fun v17 =>
      bnd (aBinC tab .geq 3 x1 v17 false) fun v18 =>
      kk (st 62 [(0, x0), (1, x1), (2, x2), (7, x7), (8, x8), (9, x9), (10, x1), (11, x0), (12, v14), (13, v15), (14, v16), (15, v17), (16, v18)]) h) (
      kk (st 62 [(0, x0), (1, x1), (2, x2), (7, x7), (8, x8), (9, x9), (10, .skip), (11, .skip), (12, .skip), (13, .skip), (14, .skip), (15, .skip), (16, .skip)]) h)
  := by cases x9 with | bool b => (cases b <;> kernel_rfl) | _ => kernel_rfl
theorem j54_1_1 {β : Type} (call : CallF) (md : Bool) (k : Ex → List AV → Heap → Option β) (x0 x1 x2 x7 x8 x9 : AV) (h : Heap) :
    opsK C0 call md 54 (O54 1) ((O54 1).toList.drop 3) (st 62 [(0, x0), (1, x1), (2, x2), (7, x7), (8, x8), (9, x9)]) h (fun tm h => k .normal (clr (C0.keep 54 1) tm) h) = J54_1_1 call md k x0 x1 x2 x9 h := by
  have e : ((O54 1).toList.drop 3) = ((O54 1).toList.drop 3).take 7 ++ (O54 1).toList.drop 10 := by kernel_rfl
  rw [show opsK C0 call md 54 (O54 1) ((O54 1).toList.drop 3) = opsK C0 call md 54 (O54 1) (((O54 1).toList.drop 3).take 7 ++ (O54 1).toList.drop 10) from congrArg _ e]
  rw [opsK_append, g54_1_1]
  simp only [j54_1_2]
  rfl
def J54_1_0 {β : Type} (call : CallF) (md : Bool) (k : Ex → List AV → Heap → Option β) (x0 x1 x2 : AV) (h : Heap) : Option β :=
    bnd (aBinC tab .lss 3 x1 (.int .i64 0) true) fun v19 =>
    J54_1_1 call md k x0 x1 x2 v19 h

theorem g54_1_0 {β : Type} (call : CallF) (md : Bool) (kk : List AV → Heap → Option β) (x0 x1 x2 : AV) (h : Heap) :
    opsK C0 call md 54 (O54 1) ((O54 1).toList.take 3) (st 62 [(0, x0), (1, x1), (2, x2)]) h kk =
    bnd (aBinC tab .lss 3 x1 (.int .i64 0) true) fun v20 =>
    kk (st 62 [(0, x0), (1, x1), (2, x2), (7, x1), (8, v20), (9, v20)]) h
  := by kernel_rfl
theorem j54_1_0 {β : Type} (call : CallF) (md : Bool) (k : Ex → List AV → Heap → Option β) (x0 x1 x2 : AV) (h : Heap) :
    opsK C0 call md 54 (O54 1) (O54 1).toList (st 62 [(0, x0), (1, x1), (2, x2)]) h (fun tm h => k .normal (clr (C0.keep 54 1) tm) h) = J54_1_0 call md k x0 x1 x2 h := by
  have e : (O54 1).toList = (O54 1).toList.take 3 ++ (O54 1).toList.drop 3 := by kernel_rfl
  rw [show opsK C0 call md 54 (O54 1) (O54 1).toList = opsK C0 call md 54 (O54 1) ((O54 1).toList.take 3 ++ (O54 1).toList.drop 3) from congrArg _ e]
  rw [opsK_append, g54_1_0]
  simp only [j54_1_1]
  rfl
theorem r54_1 {β : Type} (call : CallF) (md : Bool) (n : Nat) (k : Ex → List AV → Heap → Option β) (x0 x1 x2 : AV) (h : Heap) :
    runK C0 call md 54 n (.region 1 (O54 1) false) k (st 62 [(0, x0), (1, x1), (2, x2)]) h = J54_1_0 call md k x0 x1 x2 h := (runK_region C0 call md 54 n 1 (O54 1) k (st 62 [(0, x0), (1, x1), (2, x2)]) h).trans (j54_1_0 call md k x0 x1 x2 h)
theorem r54_2 {β : Type} (call : CallF) (md : Bool) (n : Nat) (k : Ex → List AV → Heap → Option β) (x0 x1 x2 x22 : AV) (h : Heap) :
    runK C0 call md 54 n (.region 2 (O54 2) false) k (st 62 [(0, x0), (1, x1), (2, x2), (22, x22)]) h =
    k .normal (st 62 [(6, (.int .i64 1))]) h
  := by kernel_rfl
def J54_3_2 {β : Type} (call : CallF) (md : Bool) (k : Ex → List AV → Heap → Option β) (x0 x1 x2 x27 x32 : AV) (h : Heap) : Option β :=
    bnd (aPick x27 (.bool true) x32) fun v1 =>
    k .normal (st 62 [(0, x0), (1, x1), (2, x2), (33, v1)]) h

theorem j54_3_2 {β : Type} (call : CallF) (md : Bool) (k : Ex → List AV → Heap → Option β) (x0 x1 x2 x22 x23 x24 x25 x26 x27 x28 x29 x30 x31 x32 : AV) (h : Heap) :
    opsK C0 call md 54 (O54 3) ((O54 3).toList.drop 10) (st 62 [(0, x0), (1, x1), (2, x2), (22, x22), (23, x23), (24, x24), (25, x25), (26, x26), (27, x27), (28, x28), (29, x29), (30, x30), (31, x31), (32, x32)]) h (fun tm h => k .normal (clr (C0.keep 54 3) tm) h) = J54_3_2 call md k x0 x1 x2 x27 x32 h := by kernel_rfl
def J54_3_1 {β : Type} (call : CallF) (md : Bool) (k : Ex → List AV → Heap → Option β) (x0 x1 x2 x27 : AV) (h : Heap) : Option β :=
    onG false x27 (
      bnd (aNil x0) fun v3 =>
      bnd (aFieldAddr tab 74 v3 2) fun v4 =>
      bnd (aLoad tab 3 v4 h) fun v5 =>
      bnd (aBinC tab .eql 3 v5 (.int .i64 0) true) fun v6 =>
      J54_3_2 call md k x0 x1 x2 x27 v6 h) (
      J54_3_2 call md k x0 x1 x2 x27 .skip h)

theorem g54_3_1 {β : Type} (call : CallF) (md : Bool) (kk : List AV → Heap → Option β) (x0 x1 x2 x22 x23 x24 x25 x26 x27 : AV) (h : Heap) :
    opsK C0 call md 54 (O54 3) (((O54 3).toList.drop 5).take 5) (st 62 [(0, x0), (1, x1), (2, x2), (22, x22), (23, x23), (24, x24), (25, x25), (26, x26), (27, x27)]) h kk =
    onG false x27 (
      bnd (aNil x0) fun v7 =>
      bnd (aFieldAddr tab 74 v7 2) fun v8 =>
      bnd (aLoad tab 3 v8 h) fun v9 =>
      bnd (aBinC tab .eql 3 v9 (.int .i64 0) true) fun v10 =>
      kk (st 62 [(0, x0), (1, x1), (2, x2), (22, x22), (23, x23), (24, x24), (25, x25), (26, x26), (27, x27), (28, x0), (29, v7), (30, v8), (31, v9), (32, v10)]) h) (
      kk (st 62 [(0, x0), (1, x1), (2, x2), (22, x22), (23, x23), (24, x24), (25, x25), (26, x26), (27, x27), (28, .skip), (29, .skip), (30, .skip), (31, .skip), (32, .skip)]) h)
  := by cases x27 with | bool b => (cases b <;> kernel_rfl) | _ => kernel_rfl
theorem j54_3_1 {β : Type} (call : CallF) (md : Bool) (k : Ex → List AV → Heap → Option β) (x0 x1 x2 x22 x23 x24 x25 x26 x27 : AV) (h : Heap) :
    opsK C0 call md 54 (O54 3) ((O54 3).toList.drop 5) (st 62 [(0, x0), (1, x1), (2, x2), (22, x22), (23, x23), (24, x24), (25, x25), (26, x26), (27, x27)]) h (fun tm h => k .normal (clr (C0.keep 54 3) tm) h) = J54_3_1 call md k x0 x1 x2 x27 h := by
  have e : ((O54 3).toList.drop 5) = ((O54 3).toList.drop 5).take 5 ++ (O54 3).toList.drop 10 := by kernel_rfl
  rw [show opsK C0 call md 54 (O54 3) ((O54 3).toList.drop 5) = opsK C0 call md 54 (O54 3) (((O54 3).toList.drop 5).take 5 ++ (O54 3).toList.drop 10) from congrArg _ e]
  rw [opsK_append, g54_3_1]
  simp only [j54_3_2]
  rfl
def J54_3_0 {β : Type} (call : CallF) (md : Bool) (k : Ex → List AV → Heap → Option β) (x0 x1 x2 : AV) (h : Heap) : Option β :=
    bnd (aNil x0) fun v11 =>
    bnd (aFieldAddr tab 74 v11 3) fun v12 =>
    bnd (aLoad tab 4 v12 h) fun v13 =>
    J54_3_1 call md k x0 x1 x2 v13 h

theorem g54_3_0 {β : Type} (call : CallF) (md : Bool) (kk : List AV → Heap → Option β) (x0 x1 x2 x22 : AV) (h : Heap) :
    opsK C0 call md 54 (O54 3) ((O54 3).toList.take 5) (st 62 [(0, x0), (1, x1), (2, x2), (22, x22)]) h kk =
    bnd (aNil x0) fun v14 =>
    bnd (aFieldAddr tab 74 v14 3) fun v15 =>
    bnd (aLoad tab 4 v15 h) fun v16 =>
    kk (st 62 [(0, x0), (1, x1), (2, x2), (22, x22), (23, x0), (24, v14), (25, v15), (26, v16), (27, v16)]) h
  := by kernel_rfl
theorem j54_3_0 {β : Type} (call : CallF) (md : Bool) (k : Ex → List AV → Heap → Option β) (x0 x1 x2 x22 : AV) (h : Heap) :
    opsK C0 call md 54 (O54 3) (O54 3).toList (st 62 [(0, x0), (1, x1), (2, x2), (22, x22)]) h (fun tm h => k .normal (clr (C0.keep 54 3) tm) h) = J54_3_0 call md k x0 x1 x2 h := by
  have e : (O54 3).toList = (O54 3).toList.take 5 ++ (O54 3).toList.drop 5 := by kernel_rfl
  rw [show opsK C0 call md 54 (O54 3) (O54 3).toList = opsK C0 call md 54 (O54 3) ((O54 3).toList.take 5 ++ (O54 3).toList.drop 5) from congrArg _ e]
  rw [opsK_append, g54_3_0]
  simp only [j54_3_1]
  rfl
theorem r54_3 {β : Type} (call : CallF) (md : Bool) (n : Nat) (k : Ex → List AV → Heap → Option β) (x0 x1 x2 x22 : AV) (h : Heap) :
    runK C0 call md 54 n (.region 3 (O54 3) false) k (st 62 [(0, x0), (1, x1), (2, x2), (22, x22)]) h = J54_3_0 call md k x0 x1 x2 h := (runK_region C0 call md 54 n 3 (O54 3) k (st 62 [(0, x0), (1, x1), (2, x2), (22, x22)]) h).trans (j54_3_0 call md k x0 x1 x2 x22 h)
theorem r54_4 {β : Type} (call : CallF) (md : Bool) (n : Nat) (k : Ex → List AV → Heap → Option β) (x0 x1 x2 x33 : AV) (h : Heap) :
    runK C0 call md 54 n (.region 4 (O54 4) false) k (st 62 [(0, x0), (1, x1), (2, x2), (33, x33)]) h =
    bnd (aNil x0) fun v1 =>
    bnd (aFieldAddr tab 74 v1 3) fun v2 =>
    bnd (aStore tab 4 v2 (.bool true) h) fun h3 =>
    k .normal (st 62 []) h3
  := by kernel_rfl
theorem r54_5 {β : Type} (call : CallF) (md : Bool) (n : Nat) (k : Ex → List AV → Heap → Option β) (h : Heap) :
    runK C0 call md 54 n (.region 5 (O54 5) false) k (st 62 []) h =
    k .normal (st 62 [(6, (.int .i64 4))]) h
  := by kernel_rfl
theorem r54_6 {β : Type} (call : CallF) (md : Bool) (n : Nat) (k : Ex → List AV → Heap → Option β) (x0 x1 x2 x33 : AV) (h : Heap) :
    runK C0 call md 54 n (.region 6 (O54 6) false) k (st 62 [(0, x0), (1, x1), (2, x2), (33, x33)]) h =
    bnd (aNil x0) fun v1 =>
    bnd (aFieldAddr tab 74 v1 2) fun v2 =>
    bnd (aLoad tab 3 v2 h) fun v3 =>
    bnd (aBinC tab .gtr 3 v3 (.int .i64 0) true) fun v4 =>
    k .normal (st 62 [(0, x0), (1, x1), (2, x2), (41, v4)]) h
  := by kernel_rfl
theorem r54_7 {β : Type} (call : CallF) (md : Bool) (n : Nat) (k : Ex → List AV → Heap → Option β) (x0 x1 x2 x41 : AV) (h : Heap) :
    runK C0 call md 54 n (.region 7 (O54 7) false) k (st 62 [(0, x0), (1, x1), (2, x2), (41, x41)]) h =
    bnd (aNil x0) fun v1 =>
    bnd (aFieldAddr tab 74 v1 2) fun v2 =>
    bnd (aLoad tab 3 v2 h) fun v3 =>
    bnd (aBinC tab .sub 3 v3 (.int .i64 1) true) fun v4 =>
    bnd (aNil x0) fun v5 =>
    bnd (aFieldAddr tab 74 v5 2) fun v6 =>
    bnd (aStore tab 3 v6 v4 h) fun h7 =>
    k .normal (st 62 [(0, x0), (1, x1), (2, x2)]) h7
  := by kernel_rfl
theorem r54_8a {β : Type} (call : CallF) (md : Bool) (n : Nat) (k : Ex → List AV → Heap → Option β) (x0 x1 x2 x41 : AV) (h : Heap) :
    runK C0 call md 54 n (.region 8 (O54 8) true) k (st 62 [(0, x0), (1, x1), (2, x2), (41, x41)]) h =
    bnd (aNil x0) fun v1 =>
    bnd (aFieldAddr tab 74 v1 1) fun v2 =>
    bnd (aLoad tab 72 v2 h) fun v3 =>
    bnd2 (aCall call md (.fn (.func 21) []) [x2] h) fun v4 h5 =>
    bnd (aBuild tab 112 [(0, x1), (1, v4)]) fun v6 =>
    bnd (aLit tab 72 1 [(0, v6)]) fun v7 =>
    bnd2 (aApp tab 72 72 md v3 v7 h5) fun v8 h9 =>
    bnd (aNil x0) fun v10 =>
    bnd (aFieldAddr tab 74 v10 1) fun v11 =>
    bnd (aStore tab 72 v11 v8 h9) fun h12 =>
    onT (rdSame (aLoad tab 72 v2 h5) v3) <|
      k .normal (st 62 []) h12
  := by kernel_rfl
theorem r54_8b {β : Type} (call : CallF) (md : Bool) (n : Nat) (k : Ex → List AV → Heap → Option β) (x0 x1 x2 : AV) (h : Heap) :
    runK C0 call md 54 n (.region 8 (O54 8) true) k (st 62 [(0, x0), (1, x1), (2, x2)]) h =
    bnd (aNil x0) fun v1 =>
    bnd (aFieldAddr tab 74 v1 1) fun v2 =>
    bnd (aLoad tab 72 v2 h) fun v3 =>
    bnd2 (aCall call md (.fn (.func 21) []) [x2] h) fun v4 h5 =>
    bnd (aBuild tab 112 [(0, x1), (1, v4)]) fun v6 =>
    bnd (aLit tab 72 1 [(0, v6)]) fun v7 =>
    bnd2 (aApp tab 72 72 md v3 v7 h5) fun v8 h9 =>
    bnd (aNil x0) fun v10 =>
    bnd (aFieldAddr tab 74 v10 1) fun v11 =>
    bnd (aStore tab 72 v11 v8 h9) fun h12 =>
    onT (rdSame (aLoad tab 72 v2 h5) v3) <|
      k .normal (st 62 []) h12
  := by kernel_rfl
theorem r54_9 {β : Type} (call : CallF) (md : Bool) (n : Nat) (k : Ex → List AV → Heap → Option β) (h : Heap) :
    runK C0 call md 54 n (.region 9 (O54 9) false) k (st 62 []) h =
    k .normal (st 62 [(6, (.int .i64 0))]) h
  := by kernel_rfl
end Go.Ax

/- What the regions of some functions hand on. Printed by a program of mine (gen.py). -/
set_option linter.unusedVariables false
namespace Go.Ax
open Go Go.Proofs
/-! ### (*interregnum/interregnumref01.Disk).Flush -/
noncomputable def O55 (i : Nat) : Array Oper := opsOf i (bodyOf Try.f55)
noncomputable def B55_1 : Code := (.seq (.seq (.region 7 (O55 7) false) (.cond (Go.Operand.tmp 36) .skip (.exit 0))) (.seq (.block 1 (.region 9 (O55 9) true)) (.region 8 (O55 8) false)))
theorem s55 : bodyOf Try.f55 = (.seq (.region 0 (O55 0) false) (.seq (.seq (.region 1 (O55 1) false) (.cond (Go.Operand.tmp 14) (.seq (.region 2 (O55 2) false) (.seq (.region 3 (O55 3) false) .ret)) .skip)) (.seq (.seq (.region 4 (O55 4) false) (.cond (Go.Operand.tmp 22) (.region 5 (O55 5) false) .skip)) (.seq (.seq (.region 6 (O55 6) false) (.block 0 (.loop B55_1))) (.seq (.region 10 (O55 10) false) (.seq (.region 11 (O55 11) false) .ret)))))) := by kernel_rfl
theorem e55 : E0 55 = some ⟨63, [2], bodyOf Try.f55⟩ := by kernel_rfl
theorem r55_0 {β : Type} (call : CallF) (md : Bool) (n : Nat) (k : Ex → List AV → Heap → Option β) (x0 : AV) (h : Heap) :
    runK C0 call md 55 n (.region 0 (O55 0) false) k (st 63 [(0, x0)]) h =
    k .normal (st 63 [(0, x0)]) h
  := by kernel_rfl
def J55_1_2 {β : Type} (call : CallF) (md : Bool) (k : Ex → List AV → Heap → Option β) (x0 x8 x13 : AV) (h : Heap) : Option β :=
    bnd (aPick x8 (.bool true) x13) fun v1 =>
    k .normal (st 63 [(0, x0), (14, v1)]) h

theorem j55_1_2 {β : Type} (call : CallF) (md : Bool) (k : Ex → List AV → Heap → Option β) (x0 x4 x5 x6 x7 x8 x9 x10 x11 x12 x13 : AV) (h : Heap) :
    opsK C0 call md 55 (O55 1) ((O55 1).toList.drop 10) (st 63 [(0, x0), (4, x4), (5, x5), (6, x6), (7, x7), (8, x8), (9, x9), (10, x10), (11, x11), (12, x12), (13, x13)]) h (fun tm h => k .normal (clr (C0.keep 55 1) tm) h) = J55_1_2 call md k x0 x8 x13 h := by kernel_rfl
def J55_1_1 {β : Type} (call : CallF) (md : Bool) (k : Ex → List AV → Heap → Option β) (x0 x8 : AV) (h : Heap) : Option β :=
    onG false x8 (
      bnd (aNil x0) fun v3 =>
      bnd (aFieldAddr tab 74 v3 2) fun v4 =>
      bnd (aLoad tab 3 v4 h) fun v5 =>
      bnd (aBinC tab .eql 3 v5 (.int .i64 0) true) fun v6 =>
      J55_1_2 call md k x0 x8 v6 h) (
      J55_1_2 call md k x0 x8 .skip h)

theorem g55_1_1 {β : Type} (call : CallF) (md : Bool) (kk : List AV → Heap → Option β) (x0 x4 x5 x6 x7 x8 : AV) (h : Heap) :
    opsK C0 call md 55 (O55 1) (((O55 1).toList.drop 5).take 5) (st 63 [(0, x0), (4, x4), (5, x5), (6, x6), (7, x7), (8, x8)]) h kk =
    onG false x8 (
      bnd (aNil x0) fun v7 =>
      bnd (aFieldAddr tab 74 v7 2) fun v8 =>
      bnd (aLoad tab 3 v8 h) fun v9 =>
      bnd (aBinC tab .eql 3 v9 (.int .i64 0) true) fun v10 =>
      kk (st 63 [(0, x0), (4, x4), (5, x5), (6, x6), (7, x7), (8, x8), (9, x0), (10, v7), (11, v8), (12, v9), (13, v10)]) h) (
      kk (st 63 [(0, x0), (4, x4), (5, x5), (6, x6), (7, x7), (8, x8), (9, .skip), (10, .skip), (11, .skip), (12, .skip), (13, .skip)]) h)
  := by cases x8 with | bool b => (cases b <;> kernel_rfl) | _ => kernel_rfl
theorem j55_1_1 {β : Type} (call : CallF) (md : Bool) (k : Ex → List AV → Heap → Option β) (x0 x4 x5 x6 x7 x8 : AV) (h : Heap) :
    opsK C0 call md 55 (O55 1) ((O55 1).toList.drop 5) (st 63 [(0, x0), (4, x4), (5, x5), (6, x6), (7, x7), (8, x8)]) h (fun tm h => k .normal (clr (C0.keep 55 1) tm) h) = J55_1_1 call md k x0 x8 h := by
  have e : ((O55 1).toList.drop 5) = ((O55 1).toList.drop 5).take 5 ++ (O55 1).toList.drop 10 := by kernel_rfl
  rw [show opsK C0 call md 55 (O55 1) ((O55 1).toList.drop 5) = opsK C0 call md 55 (O55 1) (((O55 1).toList.drop 5).take 5 ++ (O55 1).toList.drop 10) from congrArg _ e]
  rw [opsK_append, g55_1_1]
  simp only [j55_1_2]
  rfl
def J55_1_0 {β : Type} (call : CallF) (md : Bool) (k : Ex → List AV → Heap → Option β) (x0 : AV) (h : Heap) : Option β :=
    bnd (aNil x0) fun v11 =>
    bnd (aFieldAddr tab 74 v11 3) fun v12 =>
    bnd (aLoad tab 4 v12 h) fun v13 =>
    J55_1_1 call md k x0 v13 h

theorem g55_1_0 {β : Type} (call : CallF) (md : Bool) (kk : List AV → Heap → Option β) (x0 : AV) (h : Heap) :
    opsK C0 call md 55 (O55 1) ((O55 1).toList.take 5) (st 63 [(0, x0)]) h kk =
    bnd (aNil x0) fun v14 =>
    bnd (aFieldAddr tab 74 v14 3) fun v15 =>
    bnd (aLoad tab 4 v15 h) fun v16 =>
    kk (st 63 [(0, x0), (4, x0), (5, v14), (6, v15), (7, v16), (8, v16)]) h
  := by kernel_rfl
theorem j55_1_0 {β : Type} (call : CallF) (md : Bool) (k : Ex → List AV → Heap → Option β) (x0 : AV) (h : Heap) :
    opsK C0 call md 55 (O55 1) (O55 1).toList (st 63 [(0, x0)]) h (fun tm h => k .normal (clr (C0.keep 55 1) tm) h) = J55_1_0 call md k x0 h := by
  have e : (O55 1).toList = (O55 1).toList.take 5 ++ (O55 1).toList.drop 5 := by kernel_rfl
  rw [show opsK C0 call md 55 (O55 1) (O55 1).toList = opsK C0 call md 55 (O55 1) ((O55 1).toList.take 5 ++ (O55 1).toList.drop 5) from congrArg _ e]
  rw [opsK_append, g55_1_0]
  simp only [j55_1_1]
  rfl
theorem r55_1 {β : Type} (call : CallF) (md : Bool) (n : Nat) (k : Ex → List AV → Heap → Option β) (x0 : AV) (h : Heap) :
    runK C0 call md 55 n (.region 1 (O55 1) false) k (st 63 [(0, x0)]) h = J55_1_0 call md k x0 h := (runK_region C0 call md 55 n 1 (O55 1) k (st 63 [(0, x0)]) h).trans (j55_1_0 call md k x0 h)
theorem r55_2 {β : Type} (call : CallF) (md : Bool) (n : Nat) (k : Ex → List AV → Heap → Option β) (x0 x14 : AV) (h : Heap) :
    runK C0 call md 55 n (.region 2 (O55 2) false) k (st 63 [(0, x0), (14, x14)]) h =
    bnd (aNil x0) fun v1 =>
    bnd (aFieldAddr tab 74 v1 3) fun v2 =>
    bnd (aStore tab 4 v2 (.bool true) h) fun h3 =>
    k .normal (st 63 []) h3
  := by kernel_rfl
theorem r55_3 {β : Type} (call : CallF) (md : Bool) (n : Nat) (k : Ex → List AV → Heap → Option β) (h : Heap) :
    runK C0 call md 55 n (.region 3 (O55 3) false) k (st 63 []) h =
    k .normal (st 63 [(2, (.int .i64 4))]) h
  := by kernel_rfl
theorem r55_4 {β : Type} (call : CallF) (md : Bool) (n : Nat) (k : Ex → List AV → Heap → Option β) (x0 x14 : AV) (h : Heap) :
    runK C0 call md 55 n (.region 4 (O55 4) false) k (st 63 [(0, x0), (14, x14)]) h =
    bnd (aNil x0) fun v1 =>
    bnd (aFieldAddr tab 74 v1 2) fun v2 =>
    bnd (aLoad tab 3 v2 h) fun v3 =>
    bnd (aBinC tab .gtr 3 v3 (.int .i64 0) true) fun v4 =>
    k .normal (st 63 [(0, x0), (22, v4)]) h
  := by kernel_rfl
theorem r55_5 {β : Type} (call : CallF) (md : Bool) (n : Nat) (k : Ex → List AV → Heap → Option β) (x0 x22 : AV) (h : Heap) :
    runK C0 call md 55 n (.region 5 (O55 5) false) k (st 63 [(0, x0), (22, x22)]) h =
    bnd (aNil x0) fun v1 =>
    bnd (aFieldAddr tab 74 v1 2) fun v2 =>
    bnd (aLoad tab 3 v2 h) fun v3 =>
    bnd (aBinC tab .sub 3 v3 (.int .i64 1) true) fun v4 =>
    bnd (aNil x0) fun v5 =>
    bnd (aFieldAddr tab 74 v5 2) fun v6 =>
    bnd (aStore tab 3 v6 v4 h) fun h7 =>
    k .normal (st 63 [(0, x0)]) h7
  := by kernel_rfl
theorem r55_6a {β : Type} (call : CallF) (md : Bool) (n : Nat) (k : Ex → List AV → Heap → Option β) (x0 x22 : AV) (h : Heap) :
    runK C0 call md 55 n (.region 6 (O55 6) false) k (st 63 [(0, x0), (22, x22)]) h =
    k .normal (st 63 [(0, x0), (3, (.int .i64 0))]) h
  := by kernel_rfl
theorem r55_6b {β : Type} (call : CallF) (md : Bool) (n : Nat) (k : Ex → List AV → Heap → Option β) (x0 : AV) (h : Heap) :
    runK C0 call md 55 n (.region 6 (O55 6) false) k (st 63 [(0, x0)]) h =
    k .normal (st 63 [(0, x0), (3, (.int .i64 0))]) h
  := by kernel_rfl
theorem r55_7 {β : Type} (call : CallF) (md : Bool) (n : Nat) (k : Ex → List AV → Heap → Option β) (x0 x3 : AV) (h : Heap) :
    runK C0 call md 55 n (.region 7 (O55 7) false) k (st 63 [(0, x0), (3, x3)]) h =
    bnd (aNil x0) fun v1 =>
    bnd (aFieldAddr tab 74 v1 1) fun v2 =>
    bnd (aLoad tab 72 v2 h) fun v3 =>
    bnd (aLen tab 72 v3) fun v4 =>
    bnd (aBinC tab .lss 3 x3 v4 false) fun v5 =>
    k .normal (st 63 [(0, x0), (3, x3), (36, v5)]) h
  := by kernel_rfl
theorem r55_8 {β : Type} (call : CallF) (md : Bool) (n : Nat) (k : Ex → List AV → Heap → Option β) (x0 x3 : AV) (h : Heap) :
    runK C0 call md 55 n (.region 8 (O55 8) false) k (st 63 [(0, x0), (3, x3)]) h =
    bnd (aBinC tab .add 3 x3 (.int .i64 1) true) fun v1 =>
    k .normal (st 63 [(0, x0), (3, v1)]) h
  := by kernel_rfl
theorem r55_9 {β : Type} (call : CallF) (md : Bool) (n : Nat) (k : Ex → List AV → Heap → Option β) (x0 x3 x36 : AV) (h : Heap) :
    runK C0 call md 55 n (.region 9 (O55 9) true) k (st 63 [(0, x0), (3, x3), (36, x36)]) h =
    bnd (aNil x0) fun v1 =>
    bnd (aFieldAddr tab 74 v1 0) fun v2 =>
    bnd (aLoad tab 30 v2 h) fun v3 =>
    bnd (aNil x0) fun v4 =>
    bnd (aFieldAddr tab 74 v4 1) fun v5 =>
    bnd (aLoad tab 72 v5 h) fun v6 =>
    bnd (aIndexAddr tab 72 v6 x3) fun v7 =>
    bnd (aFieldAddr tab 112 v7 0) fun v8 =>
    bnd (aLoad tab 3 v8 h) fun v9 =>
    bnd (aNil x0) fun v10 =>
    bnd (aFieldAddr tab 74 v10 1) fun v11 =>
    bnd (aLoad tab 72 v11 h) fun v12 =>
    bnd (aIndexAddr tab 72 v12 x3) fun v13 =>
    bnd (aFieldAddr tab 112 v13 1) fun v14 =>
    bnd (aLoad tab 22 v14 h) fun v15 =>
    bnd (aIndexAddr tab 30 v3 v9) fun v16 =>
    bnd (aStore tab 22 v16 v15 h) fun h17 =>
    k .normal (st 63 [(0, x0), (3, x3)]) h17
  := by kernel_rfl
theorem r55_10 {β : Type} (call : CallF) (md : Bool) (n : Nat) (k : Ex → List AV → Heap → Option β) (x0 x3 x36 : AV) (h : Heap) :
    runK C0 call md 55 n (.region 10 (O55 10) false) k (st 63 [(0, x0), (3, x3), (36, x36)]) h =
    bnd (aNil x0) fun v1 =>
    bnd (aFieldAddr tab 74 v1 1) fun v2 =>
    bnd (aStore tab 72 v2 .nils h) fun h3 =>
    k .normal (st 63 []) h3
  := by kernel_rfl
theorem r55_11 {β : Type} (call : CallF) (md : Bool) (n : Nat) (k : Ex → List AV → Heap → Option β) (h : Heap) :
    runK C0 call md 55 n (.region 11 (O55 11) false) k (st 63 []) h =
    k .normal (st 63 [(2, (.int .i64 0))]) h
  := by kernel_rfl
end Go.Ax

/- What the regions of some functions hand on. Printed by a program of mine (gen.py). -/
set_option linter.unusedVariables false
namespace Go.Ax
open Go Go.Proofs
/-! ### (*interregnum/interregnumref01.Disk).end -/
noncomputable def O56 (i : Nat) : Array Oper := opsOf i (bodyOf Try.f56)
theorem s56 : bodyOf Try.f56 = (.seq (.region 0 (O56 0) false) (.seq (.seq (.region 1 (O56 1) false) (.cond (Go.Operand.tmp 11) (.seq (.region 2 (O56 2) false) .ret) .skip)) (.seq (.region 3 (O56 3) false) .ret))) := by kernel_rfl
theorem e56 : E0 56 = some ⟨18, [4], bodyOf Try.f56⟩ := by kernel_rfl
theorem r56_0 {β : Type} (call : CallF) (md : Bool) (n : Nat) (k : Ex → List AV → Heap → Option β) (x0 x1 : AV) (h : Heap) :
    runK C0 call md 56 n (.region 0 (O56 0) false) k (st 18 [(0, x0), (1, x1)]) h =
    k .normal (st 18 [(0, x0), (1, x1)]) h
  := by kernel_rfl
theorem r56_1 {β : Type} (call : CallF) (md : Bool) (n : Nat) (k : Ex → List AV → Heap → Option β) (x0 x1 : AV) (h : Heap) :
    runK C0 call md 56 n (.region 1 (O56 1) false) k (st 18 [(0, x0), (1, x1)]) h =
    bnd (aNil x0) fun v1 =>
    bnd (aFieldAddr tab 74 v1 0) fun v2 =>
    bnd (aLoad tab 30 v2 h) fun v3 =>
    bnd (aLen tab 30 v3) fun v4 =>
    bnd (aBinC tab .gtr 3 x1 v4 false) fun v5 =>
    k .normal (st 18 [(0, x0), (1, x1), (11, v5)]) h
  := by kernel_rfl
theorem r56_2 {β : Type} (call : CallF) (md : Bool) (n : Nat) (k : Ex → List AV → Heap → Option β) (x0 x1 x11 : AV) (h : Heap) :
    runK C0 call md 56 n (.region 2 (O56 2) false) k (st 18 [(0, x0), (1, x1), (11, x11)]) h =
    bnd (aNil x0) fun v1 =>
    bnd (aFieldAddr tab 74 v1 0) fun v2 =>
    bnd (aLoad tab 30 v2 h) fun v3 =>
    bnd (aLen tab 30 v3) fun v4 =>
    k .normal (st 18 [(4, v4)]) h
  := by kernel_rfl
theorem r56_3 {β : Type} (call : CallF) (md : Bool) (n : Nat) (k : Ex → List AV → Heap → Option β) (x0 x1 x11 : AV) (h : Heap) :
    runK C0 call md 56 n (.region 3 (O56 3) false) k (st 18 [(0, x0), (1, x1), (11, x11)]) h =
    k .normal (st 18 [(4, x1)]) h
  := by kernel_rfl
end Go.Ax

/- What the regions of some functions hand on. Printed by a program of mine (gen.py). -/
set_option linter.unusedVariables false
namespace Go.Ax
open Go Go.Proofs
/-! ### (*interregnum/interregnumref01.Disk).Read -/
noncomputable def O57 (i : Nat) : Array Oper := opsOf i (bodyOf Try.f57)
noncomputable def B57_1 : Code := (.seq (.seq (.region 5 (O57 5) false) (.cond (Go.Operand.tmp 32) .skip (.exit 0))) (.seq (.block 1 (.seq (.region 7 (O57 7) false) (.cond (Go.Operand.tmp 44) (.region 8 (O57 8) false) .skip))) (.region 6 (O57 6) false)))
theorem s57 : bodyOf Try.f57 = (.seq (.region 0 (O57 0) false) (.seq (.seq (.region 1 (O57 1) false) (.cond (Go.Operand.tmp 17) (.seq (.region 2 (O57 2) false) .ret) .skip)) (.seq (.region 3 (O57 3) false) (.seq (.seq (.region 4 (O57 4) false) (.block 0 (.loop B57_1))) (.seq (.region 9 (O57 9) false) .ret))))) := by kernel_rfl
theorem e57 : E0 57 = some ⟨54, [4], bodyOf Try.f57⟩ := by kernel_rfl
theorem r57_0 {β : Type} (call : CallF) (md : Bool) (n : Nat) (k : Ex → List AV → Heap → Option β) (x0 x1 : AV) (h : Heap) :
    runK C0 call md 57 n (.region 0 (O57 0) false) k (st 54 [(0, x0), (1, x1)]) h =
    k .normal (st 54 [(0, x0), (1, x1)]) h
  := by kernel_rfl
def J57_1_2 {β : Type} (call : CallF) (md : Bool) (k : Ex → List AV → Heap → Option β) (x0 x1 x9 x16 : AV) (h : Heap) : Option β :=
    bnd (aPick x9 (.bool true) x16) fun v1 =>
    k .normal (st 54 [(0, x0), (1, x1), (17, v1)]) h

theorem j57_1_2 {β : Type} (call : CallF) (md : Bool) (k : Ex → List AV → Heap → Option β) (x0 x1 x7 x8 x9 x10 x11 x12 x13 x14 x15 x16 : AV) (h : Heap) :
    opsK C0 call md 57 (O57 1) ((O57 1).toList.drop 10) (st 54 [(0, x0), (1, x1), (7, x7), (8, x8), (9, x9), (10, x10), (11, x11), (12, x12), (13, x13), (14, x14), (15, x15), (16, x16)]) h (fun tm h => k .normal (clr (C0.keep 57 1) tm) h) = J57_1_2 call md k x0 x1 x9 x16 h := by kernel_rfl
def J57_1_1 {β : Type} (call : CallF) (md : Bool) (k : Ex → List AV → Heap → Option β) (x0 x1 x9 : AV) (h : Heap) : Option β :=
    onG false x9 (
      bnd (aNil x0) fun v3 =>
      bnd (aFieldAddr tab 74 v3 0) fun v4 =>
      bnd (aLoad tab 30 v4 h) fun v5 =>
      bnd (aLen tab 30 v5) fun v6 =>
      bnd (aBinC tab .geq 3 x1 v6 false) fun v7 =>
      J57_1_2 call md k x0 x1 x9 v7 h) (
      J57_1_2 call md k x0 x1 x9 .skip h)

theorem g57_1_1 {β : Type} (call : CallF) (md : Bool) (kk : List AV → Heap → Option β) (x0 x1 x7 x8 x9 : AV) (h : Heap) :
    opsK C0 call md 57 (O57 1) (((O57 1).toList.drop 3).take 7) (st 54 [(0, x0), (1, x1), (7, x7), (8, x8), (9, x9)]) h kk =
    onG false x9 (
      bnd (aNil x0) fun v8 =>
      bnd (aFieldAddr tab 74 v8 0) fun v9 =>
      bnd (aLoad tab 30 v9 h) fun v10 =>
      bnd (aLen tab 30 v10) fun v11 =>
      bnd (aBinC tab .geq 3 x1 v11 false) fun v12 =>
      kk (st 54 [(0, x0), (1, x1), (7, x7), (8, x8), (9, x9), (10, x1), (11, x0), (12, v8), (13, v9), (14, v10), (15, v11), (16, v12)]) h) (
      kk (st 54 [(0, x0), (1, x1), (7, x7), (8, x8), (9, x9), (10, .skip), (11, .skip), (12, .skip), (13, .skip), (14, .skip), (15, .skip), (16, .skip)]) h)
  := by cases x9 with | bool b => (cases b <;> kernel_rfl) | _ => kernel_rfl
theorem j57_1_1 {β : Type} (call : CallF) (md : Bool) (k : Ex → List AV → Heap → Option β) (x0 x1 x7 x8 x9 : AV) (h : Heap) :
    opsK C0 call md 57 (O57 1) ((O57 1).toList.drop 3) (st 54 [(0, x0), (1, x1), (7, x7), (8, x8), (9, x9)]) h (fun tm h => k .normal (clr (C0.keep 57 1) tm) h) = J57_1_1 call md k x0 x1 x9 h := by
  have e : ((O57 1).toList.drop 3) = ((O57 1).toList.drop 3).take 7 ++ (O57 1).toList.drop 10 := by kernel_rfl
  rw [show opsK C0 call md 57 (O57 1) ((O57 1).toList.drop 3) = opsK C0 call md 57 (O57 1) (((O57 1).toList.drop 3).take 7 ++ (O57 1).toList.drop 10) from congrArg _ e]
  rw [opsK_append, g57_1_1]
  simp only [j57_1_2]
  rfl
def J57_1_0 {β : Type} (call : CallF) (md : Bool) (k : Ex → List AV → Heap → Option β) (x0 x1 : AV) (h : Heap) : Option β :=
    bnd (aBinC tab .lss 3 x1 (.int .i64 0) true) fun v13 =>
    J57_1_1 call md k x0 x1 v13 h

theorem g57_1_0 {β : Type} (call : CallF) (md : Bool) (kk : List AV → Heap → Option β) (x0 x1 : AV) (h : Heap) :
    opsK C0 call md 57 (O57 1) ((O57 1).toList.take 3) (st 54 [(0, x0), (1, x1)]) h kk =
    bnd (aBinC tab .lss 3 x1 (.int .i64 0) true) fun v14 =>
    kk (st 54 [(0, x0), (1, x1), (7, x1), (8, v14), (9, v14)]) h
  := by kernel_rfl
theorem j57_1_0 {β : Type} (call : CallF) (md : Bool) (k : Ex → List AV → Heap → Option β) (x0 x1 : AV) (h : Heap) :
    opsK C0 call md 57 (O57 1) (O57 1).toList (st 54 [(0, x0), (1, x1)]) h (fun tm h => k .normal (clr (C0.keep 57 1) tm) h) = J57_1_0 call md k x0 x1 h := by
  have e : (O57 1).toList = (O57 1).toList.take 3 ++ (O57 1).toList.drop 3 := by kernel_rfl
  rw [show opsK C0 call md 57 (O57 1) (O57 1).toList = opsK C0 call md 57 (O57 1) ((O57 1).toList.take 3 ++ (O57 1).toList.drop 3) from congrArg _ e]
  rw [opsK_append, g57_1_0]
  simp only [j57_1_1]
  rfl
theorem r57_1 {β : Type} (call : CallF) (md : Bool) (n : Nat) (k : Ex → List AV → Heap → Option β) (x0 x1 : AV) (h : Heap) :
    runK C0 call md 57 n (.region 1 (O57 1) false) k (st 54 [(0, x0), (1, x1)]) h = J57_1_0 call md k x0 x1 h := (runK_region C0 call md 57 n 1 (O57 1) k (st 54 [(0, x0), (1, x1)]) h).trans (j57_1_0 call md k x0 x1 h)
theorem r57_2 {β : Type} (call : CallF) (md : Bool) (n : Nat) (k : Ex → List AV → Heap → Option β) (x0 x1 x17 : AV) (h : Heap) :
    runK C0 call md 57 n (.region 2 (O57 2) false) k (st 54 [(0, x0), (1, x1), (17, x17)]) h =
    bnd (aZeroSl tab 22 (.int .i64 64) (.int .i64 64)) fun v1 =>
    k .normal (st 54 [(4, v1)]) h
  := by kernel_rfl
theorem r57_3 {β : Type} (call : CallF) (md : Bool) (n : Nat) (k : Ex → List AV → Heap → Option β) (x0 x1 x17 : AV) (h : Heap) :
    runK C0 call md 57 n (.region 3 (O57 3) false) k (st 54 [(0, x0), (1, x1), (17, x17)]) h =
    bnd (aNil x0) fun v1 =>
    bnd (aFieldAddr tab 74 v1 0) fun v2 =>
    bnd (aLoad tab 30 v2 h) fun v3 =>
    bnd (aIndexAddr tab 30 v3 x1) fun v4 =>
    bnd (aLoad tab 22 v4 h) fun v5 =>
    k .normal (st 54 [(0, x0), (1, x1), (5, v5)]) h
  := by kernel_rfl
theorem r57_4 {β : Type} (call : CallF) (md : Bool) (n : Nat) (k : Ex → List AV → Heap → Option β) (x0 x1 x5 : AV) (h : Heap) :
    runK C0 call md 57 n (.region 4 (O57 4) false) k (st 54 [(0, x0), (1, x1), (5, x5)]) h =
    k .normal (st 54 [(0, x0), (1, x1), (5, x5), (6, (.int .i64 0))]) h
  := by kernel_rfl
theorem r57_5 {β : Type} (call : CallF) (md : Bool) (n : Nat) (k : Ex → List AV → Heap → Option β) (x0 x1 x5 x6 : AV) (h : Heap) :
    runK C0 call md 57 n (.region 5 (O57 5) false) k (st 54 [(0, x0), (1, x1), (5, x5), (6, x6)]) h =
    bnd (aNil x0) fun v1 =>
    bnd (aFieldAddr tab 74 v1 1) fun v2 =>
    bnd (aLoad tab 72 v2 h) fun v3 =>
    bnd (aLen tab 72 v3) fun v4 =>
    bnd (aBinC tab .lss 3 x6 v4 false) fun v5 =>
    k .normal (st 54 [(0, x0), (1, x1), (5, x5), (6, x6), (32, v5)]) h
  := by kernel_rfl
theorem r57_6a {β : Type} (call : CallF) (md : Bool) (n : Nat) (k : Ex → List AV → Heap → Option β) (x0 x1 x5 x6 x44 : AV) (h : Heap) :
    runK C0 call md 57 n (.region 6 (O57 6) false) k (st 54 [(0, x0), (1, x1), (5, x5), (6, x6), (44, x44)]) h =
    bnd (aBinC tab .add 3 x6 (.int .i64 1) true) fun v1 =>
    k .normal (st 54 [(0, x0), (1, x1), (5, x5), (6, v1)]) h
  := by kernel_rfl
theorem r57_6b {β : Type} (call : CallF) (md : Bool) (n : Nat) (k : Ex → List AV → Heap → Option β) (x0 x1 x5 x6 : AV) (h : Heap) :
    runK C0 call md 57 n (.region 6 (O57 6) false) k (st 54 [(0, x0), (1, x1), (5, x5), (6, x6)]) h =
    bnd (aBinC tab .add 3 x6 (.int .i64 1) true) fun v1 =>
    k .normal (st 54 [(0, x0), (1, x1), (5, x5), (6, v1)]) h
  := by kernel_rfl
theorem r57_7 {β : Type} (call : CallF) (md : Bool) (n : Nat) (k : Ex → List AV → Heap → Option β) (x0 x1 x5 x6 x32 : AV) (h : Heap) :
    runK C0 call md 57 n (.region 7 (O57 7) false) k (st 54 [(0, x0), (1, x1), (5, x5), (6, x6), (32, x32)]) h =
    bnd (aNil x0) fun v1 =>
    bnd (aFieldAddr tab 74 v1 1) fun v2 =>
    bnd (aLoad tab 72 v2 h) fun v3 =>
    bnd (aIndexAddr tab 72 v3 x6) fun v4 =>
    bnd (aFieldAddr tab 112 v4 0) fun v5 =>
    bnd (aLoad tab 3 v5 h) fun v6 =>
    bnd (aBinC tab .eql 3 v6 x1 false) fun v7 =>
    k .normal (st 54 [(0, x0), (1, x1), (5, x5), (6, x6), (44, v7)]) h
  := by kernel_rfl
theorem r57_8 {β : Type} (call : CallF) (md : Bool) (n : Nat) (k : Ex → List AV → Heap → Option β) (x0 x1 x5 x6 x44 : AV) (h : Heap) :
    runK C0 call md 57 n (.region 8 (O57 8) false) k (st 54 [(0, x0), (1, x1), (5, x5), (6, x6), (44, x44)]) h =
    bnd (aNil x0) fun v1 =>
    bnd (aFieldAddr tab 74 v1 1) fun v2 =>
    bnd (aLoad tab 72 v2 h) fun v3 =>
    bnd (aIndexAddr tab 72 v3 x6) fun v4 =>
    bnd (aFieldAddr tab 112 v4 1) fun v5 =>
    bnd (aLoad tab 22 v5 h) fun v6 =>
    k .normal (st 54 [(0, x0), (1, x1), (5, v6), (6, x6)]) h
  := by kernel_rfl
theorem r57_9 {β : Type} (call : CallF) (md : Bool) (n : Nat) (k : Ex → List AV → Heap → Option β) (x0 x1 x5 x6 x32 : AV) (h : Heap) :
    runK C0 call md 57 n (.region 9 (O57 9) false) k (st 54 [(0, x0), (1, x1), (5, x5), (6, x6), (32, x32)]) h =
    k .normal (st 54 [(4, x5)]) h
  := by kernel_rfl
end Go.Ax

/- The reference's disk: how it lies in memory; Write, Flush, Read. -/
namespace Go.Ax
open Go Go.Proofs

/-- The reference's loose writes: places, and bytes in memory that never changes. -/
inductive LsL : List AV → List (Nat × List UInt8) → Prop
  | nil : LsL [] []
  | cons {v w vs ws} : Bs v w.2 → LsL vs ws → LsL (.agg 111 [.int .i64 w.1, v] :: vs) (w :: ws)

theorem LsL.length : ∀ {l : List AV} {m : List (Nat × List UInt8)}, LsL l m → l.length = m.length
  | _, _, .nil => rfl
  | _, _, .cons _ t => by simp [LsL.length t]
theorem LsL.append : ∀ {l l' : List AV} {m m' : List (Nat × List UInt8)}, LsL l m → LsL l' m' → LsL (l ++ l') (m ++ m')
  | _, _, _, _, .nil, h => h
  | _, _, _, _, .cons a t, h => .cons a (LsL.append t h)
theorem LsL.get : ∀ {vs : List AV} {ws : List (Nat × List UInt8)}, LsL vs ws → ∀ {i : Nat} {w : Nat × List UInt8}, ws[i]? = some w → ∃ v, vs[i]? = some (.agg 111 [.int .i64 w.1, v]) ∧ Bs v w.2
  | _, _, .nil, i, l, h => by simp at h
  | _, _, .cons a t, 0, l, h => by simp at h; subst h; exact ⟨_, rfl, a⟩
  | _, _, .cons a t, i + 1, l, h => by simpa using t.get (i := i) (by simpa using h)
theorem BsL.set : ∀ {vs : List AV} {ls : List (List UInt8)} {v : AV} {l : List UInt8}, BsL vs ls → ∀ (i : Nat), Bs v l → BsL (vs.set i v) (ls.set i l)
  | _, _, _, _, .nil, _, _ => .nil
  | _, _, _, _, .cons _ t, 0, h => .cons h t
  | _, _, _, _, .cons a t, i + 1, h => .cons a (t.set i h)

def sAV (r n : Nat) : AV := if n = 0 then .nils else .msl r [] 22 0 n
/-- The disk's variable. -/
def rv (r n : Nat) (x : AV) (f : Int) (w : Bool) : Obj := .var 74 (.agg 73 [sAV r n, x, .int .i64 f, .bool w])

/-- The reference's disk d lies at p, its sectors' row at r; all its objects are of S. -/
structure Rsk (S : Obs) (h : Heap) (p r : Nat) (d : Dk) : Prop where
  hp : S p
  hr : d.lasts ≠ [] → S r
  var : ∃ x vs, h[p]? = some (rv r d.lasts.length x d.fuse d.down) ∧ Ap 111 S h x vs ∧ LsL vs d.loose
  row : d.lasts ≠ [] → ∃ vs, h[r]? = some (.row 22 vs) ∧ BsL vs d.lasts
  cells : ∀ b ∈ d.lasts, b.length = 64
  loose : ∀ w ∈ d.loose, w.1 < d.lasts.length ∧ w.2.length = 64
  few : d.lasts.length ≤ 1024

theorem Rsk.keep {S U : Obs} {h h' : Heap} {p r : Nat} {d : Dk} (D : Rsk S h p r d) (k : Keep U h h') (hd : ∀ i, i < h.length → S i → ¬ U i) : Rsk S h' p r d := by
  obtain ⟨x, vs, hx, ha, hl⟩ := D.var
  refine ⟨D.hp, D.hr, ⟨x, vs, ?_, ha.keep k hd, hl⟩, fun hne => ?_, D.cells, D.loose, D.few⟩
  · rw [k.2 p (hd p (List.getElem?_eq_some_iff.1 hx).1 D.hp)]; exact hx
  · obtain ⟨us, hr, hb⟩ := D.row hne
    exact ⟨us, by rw [k.2 r (hd r (List.getElem?_eq_some_iff.1 hr).1 (D.hr hne))]; exact hr, hb⟩
theorem Rsk.fresh {S : Obs} {h h' : Heap} {p r : Nat} {d : Dk} (D : Rsk S h p r d) (k : Keep (From h.length) h h') : Rsk S h' p r d := D.keep k fun _ hi _ hj => Nat.not_le.2 hi hj
theorem Rsk.mono {S U : Obs} {h : Heap} {p r : Nat} {d : Dk} (D : Rsk S h p r d) (hs : ∀ i, S i → U i) : Rsk U h p r d := by
  obtain ⟨x, vs, hx, ha, hl⟩ := D.var
  exact ⟨hs _ D.hp, fun e => hs _ (D.hr e), ⟨x, vs, hx, ha.mono hs, hl⟩, D.row, D.cells, D.loose, D.few⟩

/-- A pointer to the reference's disk. -/
abbrev rp (p : Nat) : AV := .ref p [] 73

section fields
variable {h : Heap} {p r n : Nat} {x : AV} {f : Int} {w : Bool} (hp : h[p]? = some (rv r n x f w))
include hp
theorem rld0 : aLoad tab 30 (.ref p [0] 30) h = some (sAV r n) := load_fld (i := 0) hp rfl (by simp)
theorem rld1 : aLoad tab 72 (.ref p [1] 72) h = some x := load_fld (i := 1) hp rfl (by simp)
theorem rld2 : aLoad tab 3 (.ref p [2] 3) h = some (.int .i64 f) := load_fld (i := 2) hp rfl (by simp)
theorem rld3 : aLoad tab 4 (.ref p [3] 4) h = some (.bool w) := load_fld (i := 3) hp rfl (by simp)
theorem rst1 {y : AV} (hf : fits tab 72 y = true) : aStore tab 72 (.ref p [1] 72) y h = some (h.set p (rv r n y f w)) := store_fld (i := 1) hp rfl (by simp) hf
theorem rst2 (g : Int) : aStore tab 3 (.ref p [2] 3) (.int .i64 g) h = some (h.set p (rv r n x g w)) := store_fld (i := 2) hp rfl (by simp) rfl
theorem rst3 (g : Bool) : aStore tab 4 (.ref p [3] 4) (.bool g) h = some (h.set p (rv r n x f g)) := store_fld (i := 3) hp rfl (by simp) rfl
end fields
theorem rp_chk (p : Nat) : aNil (rp p) = some (rp p) := rfl
theorem rpf0 (p : Nat) : aFieldAddr tab 74 (rp p) 0 = some (.ref p [0] 30) := by simp [aFieldAddr]
theorem rpf1 (p : Nat) : aFieldAddr tab 74 (rp p) 1 = some (.ref p [1] 72) := by simp [aFieldAddr]
theorem rpf2 (p : Nat) : aFieldAddr tab 74 (rp p) 2 = some (.ref p [2] 3) := by simp [aFieldAddr]
theorem rpf3 (p : Nat) : aFieldAddr tab 74 (rp p) 3 = some (.ref p [3] 4) := by simp [aFieldAddr]
theorem lens (r n : Nat) : aLen tab 30 (sAV r n) = some (.int .i64 n) := by
  unfold sAV
  split
  · rename_i h; subst h; simp [aLen]
  · simp [aLen]
theorem idxs (r n i : Nat) (hi : i < n) : aIndexAddr tab 30 (sAV r n) (.int .i64 i) = some (.ref r [i] 22) := by
  unfold sAV
  rw [if_neg (by omega)]
  simp [aIndexAddr, hi]
theorem len72 {S : Obs} {h : Heap} {x : AV} {l : List AV} (a : Ap 111 S h x l) : aLen tab 72 x = some (.int .i64 l.length) := by
  rcases a with ⟨rfl, rfl⟩ | ⟨k, rfl, -⟩ <;> simp [aLen]
theorem idx72 {S : Obs} {h : Heap} {x : AV} {l : List AV} (a : Ap 111 S h x l) {i : Nat} {w : AV} (hi : l[i]? = some w) : aIndexAddr tab 72 x (.int .i64 i) = some (.vptr 111 w) := by
  rcases a with ⟨rfl, rfl⟩ | ⟨k, rfl, -⟩
  · simp at hi
  · simp [aIndexAddr, hi]
theorem Ap.fits72 {S : Obs} {h : Heap} {x : AV} {l : List AV} (a : Ap 111 S h x l) : fits tab 72 x = true := by
  rcases a with ⟨rfl, -⟩ | ⟨k, rfl, -⟩ <;> rfl
theorem fa112v_0 (a v : AV) : aFieldAddr tab 112 (.vptr 111 (.agg 111 [a, v])) 0 = some (.vptr 3 a) := by simp [aFieldAddr]
theorem fa112v_1 (a v : AV) : aFieldAddr tab 112 (.vptr 111 (.agg 111 [a, v])) 1 = some (.vptr 22 v) := by simp [aFieldAddr]
theorem bld112 (n : Nat) {v : AV} (hv : fits tab 22 v = true) : aBuild tab 112 [(0, .int .i64 n), (1, v)] = some (.agg 111 [.int .i64 n, v]) := by
  have h3 : fits tab 3 (.int .i64 n) = true := rfl
  simp [aBuild, aFill, hv, h3]
theorem lit72 (n : Nat) (v : AV) : aLit tab 72 1 [(0, .agg 111 [.int .i64 n, v])] = some (.vsl 111 [.agg 111 [.int .i64 n, v]] .exact) := by
  simp [aLit, aElems, aFill, fits]
theorem app72 (x : AV) (new : List AV) (k : Tok) (h : Heap) : aApp tab 72 72 false x (.vsl 111 new k) h = aAppend tab 112 false x new h := by kernel_rfl

/-- The disk's own variable is written: fuse and power. -/
theorem Rsk.upd {S : Obs} {p r : Nat} {h : Heap} {d : Dk} (D : Rsk S h p r d) {x : AV} {vs : List AV} (hx : h[p]? = some (rv r d.lasts.length x d.fuse d.down)) (ha : Ap 111 S h x vs) (hl : LsL vs d.loose) (f : Int) (w : Bool) :
    Rsk S (h.set p (rv r d.lasts.length x f w)) p r { d with fuse := f, down := w } := by
  have hlt : p < h.length := (List.getElem?_eq_some_iff.1 hx).1
  refine ⟨D.hp, D.hr, ⟨x, vs, by simp [hlt], ha.at hx (by simp [rv]) fun i _ hi => List.getElem?_set_ne (by omega), hl⟩, fun hne => ?_, D.cells, D.loose, D.few⟩
  obtain ⟨us, hr, hb⟩ := D.row hne
  refine ⟨us, ?_, hb⟩
  rw [List.getElem?_set_ne]
  · exact hr
  · intro e
    subst e
    rw [hx] at hr
    cases hr

def Dk.rdown (d : Dk) : Dk := { d with fuse := d.fuse, down := true }
def Dk.rburn (d : Dk) : Dk := { d with fuse := if 0 < d.fuse then d.fuse - 1 else d.fuse, down := d.down }
def Dk.off (d : Dk) : Prop := d.down = true ∨ d.fuse = 0
instance (d : Dk) : Decidable d.off := by unfold Dk.off; infer_instance
def Dk.rwrite (d : Dk) (at' : Int) (b : List UInt8) : Int × Dk :=
  if ¬ d.has at' ∨ 64 < b.length then (1, d)
  else if d.off then (4, d.rdown)
  else (0, d.rburn.add (at'.toNat, pad b))
def Dk.rflush (d : Dk) : Int × Dk := if d.off then (4, d.rdown) else (0, ⟨d.now, [], d.rburn.fuse, d.down⟩)

theorem wrn0 (p : Nat) (at' : Int) (x : AV) : ([rp p, .int .i64 at', x] ++ List.replicate (62 - [rp p, .int .i64 at', x].length) AV.undef) = st 62 [(0, rp p), (1, .int .i64 at'), (2, x)] := rfl

theorem rdSame_refl (v : AV) : rdSame (some v) v = true := AV.same_refl v

theorem Rsk.add {S : Obs} {p r : Nat} {h h' : Heap} {d : Dk} (D : Rsk S h p r d) {w : Nat × List UInt8} {x : AV} {vs : List AV} (hw : w.1 < d.lasts.length ∧ w.2.length = 64)
    (ha : Ap 111 S h' x vs) (hv : LsL vs (d.loose ++ [w])) (hr : ∀ l, h[r]? = some (.row 22 l) → h'[r]? = some (.row 22 l)) {y : AV} (hp : h'[p]? = some (rv r d.lasts.length y d.fuse d.down)) :
    Rsk S (h'.set p (rv r d.lasts.length x d.fuse d.down)) p r (d.add w) := by
  have hlt : p < h'.length := (List.getElem?_eq_some_iff.1 hp).1
  refine ⟨D.hp, D.hr, ⟨x, vs, by simp [hlt, Dk.add], ha.at hp (fun g e => by cases e) fun i _ hi => List.getElem?_set_ne (by omega), hv⟩, fun hne => ?_, D.cells, ?_, D.few⟩
  · obtain ⟨us, hr0, hb⟩ := D.row hne
    have := hr _ hr0
    refine ⟨us, ?_, hb⟩
    rw [List.getElem?_set_ne]
    · exact this
    · intro e
      subst e
      rw [hp] at this
      cases this
  · intro v hv
    rcases List.mem_append.1 hv with hv | hv
    · exact D.loose v hv
    · simp only [List.mem_singleton] at hv; subst hv; exact hw

theorem rwrite_ok {S U : Obs} {p r : Nat} {h : Heap} {d : Dk} (D : Rsk S h p r d) (up : Up S h) (at' : Int) {x : AV} {b : List UInt8} (hb : By U h x b) (hU : ∀ i, i < h.length → U i → ¬ S i)
    (hl : d.loose.length < 2 ^ 30) (hf : d.fuse < 2 ^ 63) (k : Nat) :
    ∃ h', exFn C0 E0 (k + 3) false 54 [rp p, .int .i64 at', x] h = some (.int .i64 (d.rwrite at' b).1, h') ∧ Rsk S h' p r (d.rwrite at' b).2 ∧ Keep S h h' := by
  obtain ⟨y, vs, hy, ha, hls⟩ := D.var
  unfold Dk.rwrite
  by_cases h1 : d.has at'
  case neg =>
    rw [if_pos (.inl h1)]
    refine ⟨h, exFn_of e54 ?_, D, Keep.refl _ _⟩
    rw [fnK, wrn0, s54]
    by_cases q : at' < 0
    · simp -implicitDefEqProofs only [↓runK_seq, runK_seq, ↓runK_cond, runK_cond, ↓runK_block, runK_block, ↓runK_loop, runK_loop, ↓runK_skip, runK_skip, ↓runK_ret, runK_ret, ↓runK_exit, runK_exit, ↓seqE_n, seqE_n, ↓seqE_e, seqE_e, ↓seqE_r, seqE_r, ↓blkE_n, blkE_n, ↓blkE_e, blkE_e, ↓blkE_r, blkE_r, ↓retK_n, retK_n, ↓retK_r, retK_r, ↓aCall_fn, aCall_fn, ↓bnd_s, bnd_s, ↓bnd2_s, bnd2_s, ↓onB_t, onB_t, ↓onB_f, onB_f, ↓onG_tt, onG_tt, ↓onG_tf, onG_tf, ↓onG_ft, onG_ft, ↓onG_ff, onG_ff, ↓onG_s, onG_s, ↓onT_t, onT_t, ↓aPick_t, aPick_t, ↓aPick_f, aPick_f, decide_true, decide_false, st_tmp, results1, results2, List.lookup_cons, List.lookup_nil, Nat.reduceBEq, Bool.false_eq_true, ↓reduceIte, BEq.rfl, Nat.reduceLT, Option.getD_some, Option.getD_none, ↓r54_0, r54_0, ↓r54_1, r54_1, J54_1_0, J54_1_1, J54_1_2, J54_1_3, J54_1_4, ↓r54_2, r54_2, ↓r54_3, r54_3, J54_3_0, J54_3_1, J54_3_2, ↓r54_4, r54_4, ↓r54_5, r54_5, ↓r54_6, r54_6, ↓r54_7, r54_7, ↓r54_8a, r54_8a, ↓r54_8b, r54_8b, ↓r54_9, r54_9, bin_lss, decide_eq_true q]
    · have q2 : ((d.lasts.length : Nat) : Int) ≤ at' := by unfold Dk.has at h1; omega
      simp -implicitDefEqProofs only [↓runK_seq, runK_seq, ↓runK_cond, runK_cond, ↓runK_block, runK_block, ↓runK_loop, runK_loop, ↓runK_skip, runK_skip, ↓runK_ret, runK_ret, ↓runK_exit, runK_exit, ↓seqE_n, seqE_n, ↓seqE_e, seqE_e, ↓seqE_r, seqE_r, ↓blkE_n, blkE_n, ↓blkE_e, blkE_e, ↓blkE_r, blkE_r, ↓retK_n, retK_n, ↓retK_r, retK_r, ↓aCall_fn, aCall_fn, ↓bnd_s, bnd_s, ↓bnd2_s, bnd2_s, ↓onB_t, onB_t, ↓onB_f, onB_f, ↓onG_tt, onG_tt, ↓onG_tf, onG_tf, ↓onG_ft, onG_ft, ↓onG_ff, onG_ff, ↓onG_s, onG_s, ↓onT_t, onT_t, ↓aPick_t, aPick_t, ↓aPick_f, aPick_f, decide_true, decide_false, st_tmp, results1, results2, List.lookup_cons, List.lookup_nil, Nat.reduceBEq, Bool.false_eq_true, ↓reduceIte, BEq.rfl, Nat.reduceLT, Option.getD_some, Option.getD_none, ↓r54_0, r54_0, ↓r54_1, r54_1, J54_1_0, J54_1_1, J54_1_2, J54_1_3, J54_1_4, ↓r54_2, r54_2, ↓r54_3, r54_3, J54_3_0, J54_3_1, J54_3_2, ↓r54_4, r54_4, ↓r54_5, r54_5, ↓r54_6, r54_6, ↓r54_7, r54_7, ↓r54_8a, r54_8a, ↓r54_8b, r54_8b, ↓r54_9, r54_9, bin_lss, decide_eq_false q, rp_chk, rpf0, rld0 hy, lens, bin_geq, decide_eq_true q2]
  have q1 : decide (at' < 0) = false := decide_eq_false (by have := h1.1; omega)
  have q2 : decide (((d.lasts.length : Nat) : Int) ≤ at') = false := decide_eq_false (by have := h1.2; omega)
  by_cases h2 : 64 < b.length
  · rw [if_pos (.inr h2)]
    have e2 : decide ((64 : Int) < (b.length : Nat)) = true := decide_eq_true (by omega)
    refine ⟨h, exFn_of e54 ?_, D, Keep.refl _ _⟩
    rw [fnK, wrn0, s54]
    simp -implicitDefEqProofs only [↓runK_seq, runK_seq, ↓runK_cond, runK_cond, ↓runK_block, runK_block, ↓runK_loop, runK_loop, ↓runK_skip, runK_skip, ↓runK_ret, runK_ret, ↓runK_exit, runK_exit, ↓seqE_n, seqE_n, ↓seqE_e, seqE_e, ↓seqE_r, seqE_r, ↓blkE_n, blkE_n, ↓blkE_e, blkE_e, ↓blkE_r, blkE_r, ↓retK_n, retK_n, ↓retK_r, retK_r, ↓aCall_fn, aCall_fn, ↓bnd_s, bnd_s, ↓bnd2_s, bnd2_s, ↓onB_t, onB_t, ↓onB_f, onB_f, ↓onG_tt, onG_tt, ↓onG_tf, onG_tf, ↓onG_ft, onG_ft, ↓onG_ff, onG_ff, ↓onG_s, onG_s, ↓onT_t, onT_t, ↓aPick_t, aPick_t, ↓aPick_f, aPick_f, decide_true, decide_false, st_tmp, results1, results2, List.lookup_cons, List.lookup_nil, Nat.reduceBEq, Bool.false_eq_true, ↓reduceIte, BEq.rfl, Nat.reduceLT, Option.getD_some, Option.getD_none, ↓r54_0, r54_0, ↓r54_1, r54_1, J54_1_0, J54_1_1, J54_1_2, J54_1_3, J54_1_4, ↓r54_2, r54_2, ↓r54_3, r54_3, J54_3_0, J54_3_1, J54_3_2, ↓r54_4, r54_4, ↓r54_5, r54_5, ↓r54_6, r54_6, ↓r54_7, r54_7, ↓r54_8a, r54_8a, ↓r54_8b, r54_8b, ↓r54_9, r54_9, bin_lss, q1, rp_chk, rpf0, rld0 hy, lens, bin_geq, q2, hb.len, bin_gtr, e2]
  rw [if_neg (fun h => h.elim (fun h => h h1) h2)]
  have e2 : decide ((64 : Int) < (b.length : Nat)) = false := decide_eq_false (by omega)
  by_cases h3 : d.off
  · rw [if_pos h3]
    refine ⟨_, exFn_of e54 ?_, D.upd hy ha hls d.fuse true, Keep.set h _ D.hp⟩
    rw [fnK, wrn0, s54]
    cases hd : d.down
    · have e3 : decide (d.fuse = 0) = true := decide_eq_true (by rcases h3 with h3 | h3; rw [hd] at h3; cases h3; exact h3)
      rw [hd] at hy
      simp -implicitDefEqProofs only [↓runK_seq, runK_seq, ↓runK_cond, runK_cond, ↓runK_block, runK_block, ↓runK_loop, runK_loop, ↓runK_skip, runK_skip, ↓runK_ret, runK_ret, ↓runK_exit, runK_exit, ↓seqE_n, seqE_n, ↓seqE_e, seqE_e, ↓seqE_r, seqE_r, ↓blkE_n, blkE_n, ↓blkE_e, blkE_e, ↓blkE_r, blkE_r, ↓retK_n, retK_n, ↓retK_r, retK_r, ↓aCall_fn, aCall_fn, ↓bnd_s, bnd_s, ↓bnd2_s, bnd2_s, ↓onB_t, onB_t, ↓onB_f, onB_f, ↓onG_tt, onG_tt, ↓onG_tf, onG_tf, ↓onG_ft, onG_ft, ↓onG_ff, onG_ff, ↓onG_s, onG_s, ↓onT_t, onT_t, ↓aPick_t, aPick_t, ↓aPick_f, aPick_f, decide_true, decide_false, st_tmp, results1, results2, List.lookup_cons, List.lookup_nil, Nat.reduceBEq, Bool.false_eq_true, ↓reduceIte, BEq.rfl, Nat.reduceLT, Option.getD_some, Option.getD_none, ↓r54_0, r54_0, ↓r54_1, r54_1, J54_1_0, J54_1_1, J54_1_2, J54_1_3, J54_1_4, ↓r54_2, r54_2, ↓r54_3, r54_3, J54_3_0, J54_3_1, J54_3_2, ↓r54_4, r54_4, ↓r54_5, r54_5, ↓r54_6, r54_6, ↓r54_7, r54_7, ↓r54_8a, r54_8a, ↓r54_8b, r54_8b, ↓r54_9, r54_9, bin_lss, q1, rp_chk, rpf0, rld0 hy, lens, bin_geq, q2, hb.len, bin_gtr, e2, rpf3, rld3 hy, rpf2, rld2 hy, bin_eql, e3, rst3 hy]
    · rw [hd] at hy
      simp -implicitDefEqProofs only [↓runK_seq, runK_seq, ↓runK_cond, runK_cond, ↓runK_block, runK_block, ↓runK_loop, runK_loop, ↓runK_skip, runK_skip, ↓runK_ret, runK_ret, ↓runK_exit, runK_exit, ↓seqE_n, seqE_n, ↓seqE_e, seqE_e, ↓seqE_r, seqE_r, ↓blkE_n, blkE_n, ↓blkE_e, blkE_e, ↓blkE_r, blkE_r, ↓retK_n, retK_n, ↓retK_r, retK_r, ↓aCall_fn, aCall_fn, ↓bnd_s, bnd_s, ↓bnd2_s, bnd2_s, ↓onB_t, onB_t, ↓onB_f, onB_f, ↓onG_tt, onG_tt, ↓onG_tf, onG_tf, ↓onG_ft, onG_ft, ↓onG_ff, onG_ff, ↓onG_s, onG_s, ↓onT_t, onT_t, ↓aPick_t, aPick_t, ↓aPick_f, aPick_f, decide_true, decide_false, st_tmp, results1, results2, List.lookup_cons, List.lookup_nil, Nat.reduceBEq, Bool.false_eq_true, ↓reduceIte, BEq.rfl, Nat.reduceLT, Option.getD_some, Option.getD_none, ↓r54_0, r54_0, ↓r54_1, r54_1, J54_1_0, J54_1_1, J54_1_2, J54_1_3, J54_1_4, ↓r54_2, r54_2, ↓r54_3, r54_3, J54_3_0, J54_3_1, J54_3_2, ↓r54_4, r54_4, ↓r54_5, r54_5, ↓r54_6, r54_6, ↓r54_7, r54_7, ↓r54_8a, r54_8a, ↓r54_8b, r54_8b, ↓r54_9, r54_9, bin_lss, q1, rp_chk, rpf0, rld0 hy, lens, bin_geq, q2, hb.len, bin_gtr, e2, rpf3, rld3 hy, rst3 hy]
  rw [if_neg h3]
  have hd : d.down = false := by
    cases hd : d.down
    · rfl
    · exact absurd (.inl hd) h3
  have hf0 : d.fuse ≠ 0 := fun e => h3 (.inr e)
  have e3 : decide (d.fuse = 0) = false := decide_eq_false hf0
  obtain ⟨n, rfl⟩ : ∃ n : Nat, at' = n := ⟨at'.toNat, by have := h1.1; omega⟩
  rw [Int.toNat_natCast]
  -- the fuse
  have D1 : Rsk S (h.set p (rv r d.lasts.length y d.rburn.fuse d.down)) p r d.rburn := D.upd hy ha hls _ _
  have k1 : Keep S h (h.set p (rv r d.lasts.length y d.rburn.fuse d.down)) := Keep.set h _ D.hp
  have hb1 := hb.keep k1 hU
  have hlt : p < h.length := (List.getElem?_eq_some_iff.1 hy).1
  have hset : d.fuse < 0 → h.set p (rv r d.lasts.length y d.rburn.fuse d.down) = h := by
    intro hneg
    have : d.rburn.fuse = d.fuse := by simp only [Dk.rburn]; rw [if_neg (by omega)]
    rw [this]
    apply List.ext_getElem?
    intro i
    by_cases hi : p = i
    · subst hi; rw [List.getElem?_set_self hlt, hy]
    · rw [List.getElem?_set_ne hi]
  have st2 : 0 < d.fuse → aStore tab 3 (.ref p [2] 3) (.int .i64 (d.fuse - 1)) h = some (h.set p (rv r d.lasts.length y d.rburn.fuse d.down)) := by
    intro hpos
    have : d.rburn.fuse = d.fuse - 1 := by simp only [Dk.rburn]; rw [if_pos hpos]
    rw [this]
    exact rst2 hy _
  have hbl : d.rburn.loose.length = d.loose.length := rfl
  generalize h.set p (rv r d.lasts.length y d.rburn.fuse d.down) = H1 at *
  obtain ⟨H2, f1, f2⟩ := fill_ok hb1 (by omega) (k + 1)
  have up2 := (up.keep k1).keep f2
  have D2 := D1.fresh f2
  obtain ⟨y1, vs1, hy1, -, -⟩ := D1.var
  obtain ⟨y2, vs2, hy2, ha2, hl2⟩ := D2.var
  obtain rfl : y1 = y2 := by
    have := f2.2 p (fun hh => Nat.not_le.2 (List.getElem?_eq_some_iff.1 hy1).1 hh)
    rw [hy1, hy2] at this
    cases this
    rfl
  have hvl := hl2.length
  obtain ⟨y', h3', kk, ap, hyk, ha3, k3, nt⟩ := Ap.append (T := tab) (e := 112) (S := S) (h := H2) (x := y1) (l := vs2) (new := [.agg 111 [.int .i64 (n : Nat), .vsl 5 ((pad b).map U8) .none]]) (by rw [tu112]; exact ha2) up2 (by simp) (by simp)
    (by simp only [tb112, List.length_singleton]; omega) (by simp only [List.length_singleton]; omega) (by simp)
  rw [tu112] at ha3
  have hy3 := nt p _ hy2 (fun g e => by cases e)
  have hr3 : ∀ l, H2[r]? = some (.row 22 l) → h3'[r]? = some (.row 22 l) := fun l hl => nt r _ hl (fun g e => by cases e)
  have D3 := D2.add (w := (n, pad b)) ⟨by have := h1.2; simp only [Dk.rburn]; omega, by simp [pad]; omega⟩ ha3 (hl2.append (LsL.cons (w := (n, pad b)) (.inr ⟨_, rfl⟩) .nil)) hr3 hy3
  refine ⟨_, exFn_of e54 ?_, D3, (k1.fresh f2 up).trans (k3.trans (Keep.set h3' _ D.hp))⟩
  rw [fnK, wrn0, s54]
  have hy' := hy
  rw [hd] at hy'
  have fv : fits tab 22 (.vsl 5 ((pad b).map U8) .none) = true := rfl
  rcases Int.lt_or_gt_of_ne hf0 with hneg | hpos
  · have e4 : decide (0 < d.fuse) = false := decide_eq_false (by omega)
    have hH := hset hneg
    subst hH
    simp -implicitDefEqProofs only [↓runK_seq, runK_seq, ↓runK_cond, runK_cond, ↓runK_block, runK_block, ↓runK_loop, runK_loop, ↓runK_skip, runK_skip, ↓runK_ret, runK_ret, ↓runK_exit, runK_exit, ↓seqE_n, seqE_n, ↓seqE_e, seqE_e, ↓seqE_r, seqE_r, ↓blkE_n, blkE_n, ↓blkE_e, blkE_e, ↓blkE_r, blkE_r, ↓retK_n, retK_n, ↓retK_r, retK_r, ↓aCall_fn, aCall_fn, ↓bnd_s, bnd_s, ↓bnd2_s, bnd2_s, ↓onB_t, onB_t, ↓onB_f, onB_f, ↓onG_tt, onG_tt, ↓onG_tf, onG_tf, ↓onG_ft, onG_ft, ↓onG_ff, onG_ff, ↓onG_s, onG_s, ↓onT_t, onT_t, ↓aPick_t, aPick_t, ↓aPick_f, aPick_f, decide_true, decide_false, st_tmp, results1, results2, List.lookup_cons, List.lookup_nil, Nat.reduceBEq, Bool.false_eq_true, ↓reduceIte, BEq.rfl, Nat.reduceLT, Option.getD_some, Option.getD_none, ↓r54_0, r54_0, ↓r54_1, r54_1, J54_1_0, J54_1_1, J54_1_2, J54_1_3, J54_1_4, ↓r54_2, r54_2, ↓r54_3, r54_3, J54_3_0, J54_3_1, J54_3_2, ↓r54_4, r54_4, ↓r54_5, r54_5, ↓r54_6, r54_6, ↓r54_7, r54_7, ↓r54_8a, r54_8a, ↓r54_8b, r54_8b, ↓r54_9, r54_9, bin_lss, q1, rp_chk, rpf0, rld0 hy, lens, bin_geq, q2, hb.len, bin_gtr, e2, rpf3, rld3 hy', rpf2, rld2 hy, bin_eql, e3, e4, rpf1, rld1 hy1, f1, bld112 n fv, lit72, app72, ap, rst1 hy3 ha3.fits72, rld1 hy2, rdSame_refl]
  · have e4 : decide (0 < d.fuse) = true := decide_eq_true hpos
    have wr : IntKind.i64.wrap (d.fuse - 1) = d.fuse - 1 := by rw [wrap_i64] <;> omega
    simp -implicitDefEqProofs only [↓runK_seq, runK_seq, ↓runK_cond, runK_cond, ↓runK_block, runK_block, ↓runK_loop, runK_loop, ↓runK_skip, runK_skip, ↓runK_ret, runK_ret, ↓runK_exit, runK_exit, ↓seqE_n, seqE_n, ↓seqE_e, seqE_e, ↓seqE_r, seqE_r, ↓blkE_n, blkE_n, ↓blkE_e, blkE_e, ↓blkE_r, blkE_r, ↓retK_n, retK_n, ↓retK_r, retK_r, ↓aCall_fn, aCall_fn, ↓bnd_s, bnd_s, ↓bnd2_s, bnd2_s, ↓onB_t, onB_t, ↓onB_f, onB_f, ↓onG_tt, onG_tt, ↓onG_tf, onG_tf, ↓onG_ft, onG_ft, ↓onG_ff, onG_ff, ↓onG_s, onG_s, ↓onT_t, onT_t, ↓aPick_t, aPick_t, ↓aPick_f, aPick_f, decide_true, decide_false, st_tmp, results1, results2, List.lookup_cons, List.lookup_nil, Nat.reduceBEq, Bool.false_eq_true, ↓reduceIte, BEq.rfl, Nat.reduceLT, Option.getD_some, Option.getD_none, ↓r54_0, r54_0, ↓r54_1, r54_1, J54_1_0, J54_1_1, J54_1_2, J54_1_3, J54_1_4, ↓r54_2, r54_2, ↓r54_3, r54_3, J54_3_0, J54_3_1, J54_3_2, ↓r54_4, r54_4, ↓r54_5, r54_5, ↓r54_6, r54_6, ↓r54_7, r54_7, ↓r54_8a, r54_8a, ↓r54_8b, r54_8b, ↓r54_9, r54_9, bin_lss, q1, rp_chk, rpf0, rld0 hy, lens, bin_geq, q2, hb.len, bin_gtr, e2, rpf3, rld3 hy', rpf2, rld2 hy, bin_eql, e3, e4, bin_sub, wr, st2 hpos, rpf1, rld1 hy1, f1, bld112 n fv, lit72, app72, ap, rst1 hy3 ha3.fits72, rld1 hy2, rdSame_refl]
end Go.Ax

/- The reference's disk: Flush, Read, end. -/
namespace Go.Ax
open Go Go.Proofs

theorem load22v (h : Heap) (v : AV) : aLoad tab 22 (.vptr 22 v) h = some v := load22 h v
theorem store_row {h : Heap} {r i : Nat} {us : List AV} {v : AV} (hr : h[r]? = some (.row 22 us)) (hi : i < us.length) (hv : fits tab 22 v = true) :
    aStore tab 22 (.ref r [i] 22) v h = some (h.set r (.row 22 (us.set i v))) := by
  simp [aStore, hv, hr, objSet, setP, hi]
theorem load_row {h : Heap} {r i : Nat} {us : List AV} {v : AV} (hr : h[r]? = some (.row 22 us)) (hi : us[i]? = some v) : aLoad tab 22 (.ref r [i] 22) h = some v := by
  simp [aLoad, hr, objGet, getP, hi]

theorem rflush_loop {S : Obs} {h0 : Heap} {p r : Nat} {y : AV} {vs : List AV} {lasts : List (List UInt8)} {L : List (Nat × List UInt8)} {f : Int} {w : Bool} (hy : Ap 111 S h0 y vs) (hv : LsL vs L) (hL : L.length < 2 ^ 30)
    (hws : ∀ w ∈ L, w.1 < lasts.length) (hs : lasts ≠ [] → S r) (call : CallF) (N : Nat) (md : Bool) :
    ∀ (m i n : Nat) (h : Heap), i + m = L.length → m < n → h[p]? = some (rv r lasts.length y f w) → (lasts ≠ [] → ∃ us, h[r]? = some (.row 22 us) ∧ BsL us (land lasts (L.take i))) →
    ∃ h', (∀ K : Ex → List AV → Heap → Option (AV × Heap), loopK (fun next => runK C0 call md 55 N B55_1 (seqE next K)) n (st 63 [(0, rp p), (3, .int .i64 i)]) h =
      K (.exit 0) (st 63 [(0, rp p), (3, .int .i64 L.length), (36, .bool false)]) h') ∧
      h'[p]? = some (rv r lasts.length y f w) ∧ (lasts ≠ [] → ∃ us, h'[r]? = some (.row 22 us) ∧ BsL us (land lasts L)) ∧ Keep S h h' := by
  have hlen := len72 hy
  rw [hv.length] at hlen
  intro m
  induction m with
  | zero =>
    intro i n h hi hn hp hr
    obtain ⟨n, rfl⟩ : ∃ j, n = j + 1 := ⟨n - 1, by omega⟩
    obtain rfl : i = L.length := by omega
    refine ⟨h, fun K => ?_, hp, by simpa using hr, Keep.refl _ _⟩
    rw [loopK_succ]
    generalize loopK (_ : (List AV → Heap → Option (AV × Heap)) → List AV → Heap → Option (AV × Heap)) n = Lp
    have e : decide (((L.length : Nat) : Int) < (L.length : Nat)) = false := decide_eq_false (by omega)
    simp -implicitDefEqProofs only [B55_1, ↓runK_seq, runK_seq, ↓runK_cond, runK_cond, ↓runK_block, runK_block, ↓runK_loop, runK_loop, ↓runK_skip, runK_skip, ↓runK_ret, runK_ret, ↓runK_exit, runK_exit, ↓seqE_n, seqE_n, ↓seqE_e, seqE_e, ↓seqE_r, seqE_r, ↓blkE_n, blkE_n, ↓blkE_e, blkE_e, ↓blkE_r, blkE_r, ↓retK_n, retK_n, ↓retK_r, retK_r, ↓aCall_fn, aCall_fn, ↓bnd_s, bnd_s, ↓bnd2_s, bnd2_s, ↓onB_t, onB_t, ↓onB_f, onB_f, ↓onG_tt, onG_tt, ↓onG_tf, onG_tf, ↓onG_ft, onG_ft, ↓onG_ff, onG_ff, ↓onG_s, onG_s, ↓onT_t, onT_t, ↓aPick_t, aPick_t, ↓aPick_f, aPick_f, decide_true, decide_false, st_tmp, results1, results2, List.lookup_cons, List.lookup_nil, Nat.reduceBEq, Bool.false_eq_true, ↓reduceIte, BEq.rfl, Nat.reduceLT, Option.getD_some, Option.getD_none, ↓r55_0, r55_0, ↓r55_1, r55_1, J55_1_0, J55_1_1, J55_1_2, ↓r55_2, r55_2, ↓r55_3, r55_3, ↓r55_4, r55_4, ↓r55_5, r55_5, ↓r55_6a, r55_6a, ↓r55_6b, r55_6b, ↓r55_7, r55_7, ↓r55_8, r55_8, ↓r55_9, r55_9, ↓r55_10, r55_10, ↓r55_11, r55_11, rp_chk, rpf1, rld1 hp, hlen, bin_lss, e]
  | succ m ih =>
    intro i n h hi hn hp hr
    obtain ⟨n, rfl⟩ : ∃ j, n = j + 1 := ⟨n - 1, by omega⟩
    have hlt : i < L.length := by omega
    have hw : L[i]? = some L[i] := List.getElem?_eq_getElem hlt
    have hwl := hws _ (List.getElem_mem hlt)
    have tk : L.take (i + 1) = L.take i ++ [L[i]] := by rw [List.take_add_one, hw]; rfl
    have e : decide (((i : Nat) : Int) < (L.length : Nat)) = true := decide_eq_true (by omega)
    have wr : IntKind.i64.wrap ((i : Int) + 1) = ((i + 1 : Nat) : Int) := by rw [wrap_i64] <;> omega
    obtain ⟨v, hv1, bv⟩ := hv.get hw
    generalize L[i] = u at *
    have hne : lasts ≠ [] := by intro e; rw [e] at hwl; simp at hwl
    obtain ⟨us, hus, bus⟩ := hr hne
    have hul : us.length = lasts.length := by rw [bus.length, land_length]
    have sr := store_row (i := u.1) hus (by omega) bv.fits
    have hrp : r ≠ p := by intro e; subst e; rw [hp] at hus; cases hus
    have k2 : Keep S h (h.set r (.row 22 (us.set u.1 v))) := Keep.set h _ (hs hne)
    have hp2 : (h.set r (.row 22 (us.set u.1 v)))[p]? = some (rv r lasts.length y f w) := by rw [List.getElem?_set_ne hrp]; exact hp
    have hr2 : (h.set r (.row 22 (us.set u.1 v)))[r]? = some (.row 22 (us.set u.1 v)) := by simp [(List.getElem?_eq_some_iff.1 hus).1]
    obtain ⟨h', g1, g2, g3, g4⟩ := ih (i + 1) n _ (by omega) (by omega) hp2 (fun _ => ⟨_, hr2, by rw [tk, land_snoc]; exact bus.set _ bv⟩)
    refine ⟨h', fun K => ?_, g2, g3, k2.trans g4⟩
    rw [loopK_succ, ← g1 K]
    generalize loopK (_ : (List AV → Heap → Option (AV × Heap)) → List AV → Heap → Option (AV × Heap)) n = Lp
    simp -implicitDefEqProofs only [B55_1, ↓runK_seq, runK_seq, ↓runK_cond, runK_cond, ↓runK_block, runK_block, ↓runK_loop, runK_loop, ↓runK_skip, runK_skip, ↓runK_ret, runK_ret, ↓runK_exit, runK_exit, ↓seqE_n, seqE_n, ↓seqE_e, seqE_e, ↓seqE_r, seqE_r, ↓blkE_n, blkE_n, ↓blkE_e, blkE_e, ↓blkE_r, blkE_r, ↓retK_n, retK_n, ↓retK_r, retK_r, ↓aCall_fn, aCall_fn, ↓bnd_s, bnd_s, ↓bnd2_s, bnd2_s, ↓onB_t, onB_t, ↓onB_f, onB_f, ↓onG_tt, onG_tt, ↓onG_tf, onG_tf, ↓onG_ft, onG_ft, ↓onG_ff, onG_ff, ↓onG_s, onG_s, ↓onT_t, onT_t, ↓aPick_t, aPick_t, ↓aPick_f, aPick_f, decide_true, decide_false, st_tmp, results1, results2, List.lookup_cons, List.lookup_nil, Nat.reduceBEq, Bool.false_eq_true, ↓reduceIte, BEq.rfl, Nat.reduceLT, Option.getD_some, Option.getD_none, ↓r55_0, r55_0, ↓r55_1, r55_1, J55_1_0, J55_1_1, J55_1_2, ↓r55_2, r55_2, ↓r55_3, r55_3, ↓r55_4, r55_4, ↓r55_5, r55_5, ↓r55_6a, r55_6a, ↓r55_6b, r55_6b, ↓r55_7, r55_7, ↓r55_8, r55_8, ↓r55_9, r55_9, ↓r55_10, r55_10, ↓r55_11, r55_11, rp_chk, rpf1, rld1 hp, hlen, bin_lss, e, rpf0, rld0 hp, idx72 hy hv1, fa112v_0, load3v, fa112v_1, load22v, idxs r _ u.1 hwl, sr, bin_add, wr]

theorem frn0 (p : Nat) : ([rp p] ++ List.replicate (63 - [rp p].length) AV.undef) = st 63 [(0, rp p)] := rfl

theorem rflush_ok {S : Obs} {p r : Nat} {h : Heap} {d : Dk} (D : Rsk S h p r d) (hl : d.loose.length < 2 ^ 30) (hf : d.fuse < 2 ^ 63) (md : Bool) (k : Nat) (hk : d.loose.length < k) :
    ∃ h', exFn C0 E0 (k + 1) md 55 [rp p] h = some (.int .i64 d.rflush.1, h') ∧ Rsk S h' p r d.rflush.2 ∧ Keep S h h' := by
  obtain ⟨y, vs, hy, ha, hls⟩ := D.var
  have hlt : p < h.length := (List.getElem?_eq_some_iff.1 hy).1
  unfold Dk.rflush
  by_cases h3 : d.off
  · rw [if_pos h3]
    refine ⟨_, exFn_of e55 ?_, D.upd hy ha hls d.fuse true, Keep.set h _ D.hp⟩
    rw [fnK, frn0, s55]
    cases hd : d.down
    · have e3 : decide (d.fuse = 0) = true := decide_eq_true (by rcases h3 with h3 | h3; rw [hd] at h3; cases h3; exact h3)
      rw [hd] at hy
      simp -implicitDefEqProofs only [↓runK_seq, runK_seq, ↓runK_cond, runK_cond, ↓runK_block, runK_block, ↓runK_loop, runK_loop, ↓runK_skip, runK_skip, ↓runK_ret, runK_ret, ↓runK_exit, runK_exit, ↓seqE_n, seqE_n, ↓seqE_e, seqE_e, ↓seqE_r, seqE_r, ↓blkE_n, blkE_n, ↓blkE_e, blkE_e, ↓blkE_r, blkE_r, ↓retK_n, retK_n, ↓retK_r, retK_r, ↓aCall_fn, aCall_fn, ↓bnd_s, bnd_s, ↓bnd2_s, bnd2_s, ↓onB_t, onB_t, ↓onB_f, onB_f, ↓onG_tt, onG_tt, ↓onG_tf, onG_tf, ↓onG_ft, onG_ft, ↓onG_ff, onG_ff, ↓onG_s, onG_s, ↓onT_t, onT_t, ↓aPick_t, aPick_t, ↓aPick_f, aPick_f, decide_true, decide_false, st_tmp, results1, results2, List.lookup_cons, List.lookup_nil, Nat.reduceBEq, Bool.false_eq_true, ↓reduceIte, BEq.rfl, Nat.reduceLT, Option.getD_some, Option.getD_none, ↓r55_0, r55_0, ↓r55_1, r55_1, J55_1_0, J55_1_1, J55_1_2, ↓r55_2, r55_2, ↓r55_3, r55_3, ↓r55_4, r55_4, ↓r55_5, r55_5, ↓r55_6a, r55_6a, ↓r55_6b, r55_6b, ↓r55_7, r55_7, ↓r55_8, r55_8, ↓r55_9, r55_9, ↓r55_10, r55_10, ↓r55_11, r55_11, rp_chk, rpf3, rld3 hy, rpf2, rld2 hy, bin_eql, e3, rst3 hy]
    · rw [hd] at hy
      simp -implicitDefEqProofs only [↓runK_seq, runK_seq, ↓runK_cond, runK_cond, ↓runK_block, runK_block, ↓runK_loop, runK_loop, ↓runK_skip, runK_skip, ↓runK_ret, runK_ret, ↓runK_exit, runK_exit, ↓seqE_n, seqE_n, ↓seqE_e, seqE_e, ↓seqE_r, seqE_r, ↓blkE_n, blkE_n, ↓blkE_e, blkE_e, ↓blkE_r, blkE_r, ↓retK_n, retK_n, ↓retK_r, retK_r, ↓aCall_fn, aCall_fn, ↓bnd_s, bnd_s, ↓bnd2_s, bnd2_s, ↓onB_t, onB_t, ↓onB_f, onB_f, ↓onG_tt, onG_tt, ↓onG_tf, onG_tf, ↓onG_ft, onG_ft, ↓onG_ff, onG_ff, ↓onG_s, onG_s, ↓onT_t, onT_t, ↓aPick_t, aPick_t, ↓aPick_f, aPick_f, decide_true, decide_false, st_tmp, results1, results2, List.lookup_cons, List.lookup_nil, Nat.reduceBEq, Bool.false_eq_true, ↓reduceIte, BEq.rfl, Nat.reduceLT, Option.getD_some, Option.getD_none, ↓r55_0, r55_0, ↓r55_1, r55_1, J55_1_0, J55_1_1, J55_1_2, ↓r55_2, r55_2, ↓r55_3, r55_3, ↓r55_4, r55_4, ↓r55_5, r55_5, ↓r55_6a, r55_6a, ↓r55_6b, r55_6b, ↓r55_7, r55_7, ↓r55_8, r55_8, ↓r55_9, r55_9, ↓r55_10, r55_10, ↓r55_11, r55_11, rp_chk, rpf3, rld3 hy, rst3 hy]
  rw [if_neg h3]
  have hd : d.down = false := by
    cases hd : d.down
    · rfl
    · exact absurd (.inl hd) h3
  have hf0 : d.fuse ≠ 0 := fun e => h3 (.inr e)
  have e3 : decide (d.fuse = 0) = false := decide_eq_false hf0
  have D1 : Rsk S (h.set p (rv r d.lasts.length y d.rburn.fuse d.down)) p r d.rburn := D.upd hy ha hls _ _
  have k1 : Keep S h (h.set p (rv r d.lasts.length y d.rburn.fuse d.down)) := Keep.set h _ D.hp
  have hy1 : (h.set p (rv r d.lasts.length y d.rburn.fuse d.down))[p]? = some (rv r d.lasts.length y d.rburn.fuse d.down) := by simp [hlt]
  have hset : d.fuse < 0 → h.set p (rv r d.lasts.length y d.rburn.fuse d.down) = h := by
    intro hneg
    have : d.rburn.fuse = d.fuse := by simp only [Dk.rburn]; rw [if_neg (by omega)]
    rw [this]
    apply List.ext_getElem?
    intro i
    by_cases hi : p = i
    · subst hi; rw [List.getElem?_set_self hlt, hy]
    · rw [List.getElem?_set_ne hi]
  have st2 : 0 < d.fuse → aStore tab 3 (.ref p [2] 3) (.int .i64 (d.fuse - 1)) h = some (h.set p (rv r d.lasts.length y d.rburn.fuse d.down)) := by
    intro hpos
    have : d.rburn.fuse = d.fuse - 1 := by simp only [Dk.rburn]; rw [if_pos hpos]
    rw [this]
    exact rst2 hy _
  generalize h.set p (rv r d.lasts.length y d.rburn.fuse d.down) = H1 at *
  obtain ⟨H2, f1, f2, f3, f4⟩ := rflush_loop (f := d.rburn.fuse) (w := d.down) ha hls hl (fun w hw => (D.loose w hw).1) D.hr (exFn C0 E0 k) k md d.loose.length 0 k H1 (by omega) hk hy1
    (fun hne => by obtain ⟨us, hu, bu⟩ := D1.row hne; exact ⟨us, hu, by simpa [land] using (show BsL us d.lasts from bu)⟩)
  rw [show ((0 : Nat) : Int) = 0 from rfl] at f1
  have hlt2 : p < H2.length := (List.getElem?_eq_some_iff.1 f2).1
  have hnl : d.now.length = d.lasts.length := land_length _ _
  refine ⟨H2.set p (rv r d.lasts.length .nils d.rburn.fuse d.down), exFn_of e55 ?_, ?_, (k1.trans f4).trans (Keep.set H2 _ D.hp)⟩
  · rw [fnK, frn0, s55]
    have hy' := hy
    rw [hd] at hy'
    rcases Int.lt_or_gt_of_ne hf0 with hneg | hpos
    · have e4 : decide (0 < d.fuse) = false := decide_eq_false (by omega)
      have hH := hset hneg
      subst hH
      simp -implicitDefEqProofs only [↓runK_seq, runK_seq, ↓runK_cond, runK_cond, ↓runK_block, runK_block, ↓runK_loop, runK_loop, ↓runK_skip, runK_skip, ↓runK_ret, runK_ret, ↓runK_exit, runK_exit, ↓seqE_n, seqE_n, ↓seqE_e, seqE_e, ↓seqE_r, seqE_r, ↓blkE_n, blkE_n, ↓blkE_e, blkE_e, ↓blkE_r, blkE_r, ↓retK_n, retK_n, ↓retK_r, retK_r, ↓aCall_fn, aCall_fn, ↓bnd_s, bnd_s, ↓bnd2_s, bnd2_s, ↓onB_t, onB_t, ↓onB_f, onB_f, ↓onG_tt, onG_tt, ↓onG_tf, onG_tf, ↓onG_ft, onG_ft, ↓onG_ff, onG_ff, ↓onG_s, onG_s, ↓onT_t, onT_t, ↓aPick_t, aPick_t, ↓aPick_f, aPick_f, decide_true, decide_false, st_tmp, results1, results2, List.lookup_cons, List.lookup_nil, Nat.reduceBEq, Bool.false_eq_true, ↓reduceIte, BEq.rfl, Nat.reduceLT, Option.getD_some, Option.getD_none, ↓r55_0, r55_0, ↓r55_1, r55_1, J55_1_0, J55_1_1, J55_1_2, ↓r55_2, r55_2, ↓r55_3, r55_3, ↓r55_4, r55_4, ↓r55_5, r55_5, ↓r55_6a, r55_6a, ↓r55_6b, r55_6b, ↓r55_7, r55_7, ↓r55_8, r55_8, ↓r55_9, r55_9, ↓r55_10, r55_10, ↓r55_11, r55_11, rp_chk, rpf3, rld3 hy', rpf2, rld2 hy, bin_eql, e3, bin_gtr, e4]
      rw [f1]
      simp -implicitDefEqProofs only [↓runK_seq, runK_seq, ↓runK_cond, runK_cond, ↓runK_block, runK_block, ↓runK_loop, runK_loop, ↓runK_skip, runK_skip, ↓runK_ret, runK_ret, ↓runK_exit, runK_exit, ↓seqE_n, seqE_n, ↓seqE_e, seqE_e, ↓seqE_r, seqE_r, ↓blkE_n, blkE_n, ↓blkE_e, blkE_e, ↓blkE_r, blkE_r, ↓retK_n, retK_n, ↓retK_r, retK_r, ↓aCall_fn, aCall_fn, ↓bnd_s, bnd_s, ↓bnd2_s, bnd2_s, ↓onB_t, onB_t, ↓onB_f, onB_f, ↓onG_tt, onG_tt, ↓onG_tf, onG_tf, ↓onG_ft, onG_ft, ↓onG_ff, onG_ff, ↓onG_s, onG_s, ↓onT_t, onT_t, ↓aPick_t, aPick_t, ↓aPick_f, aPick_f, decide_true, decide_false, st_tmp, results1, results2, List.lookup_cons, List.lookup_nil, Nat.reduceBEq, Bool.false_eq_true, ↓reduceIte, BEq.rfl, Nat.reduceLT, Option.getD_some, Option.getD_none, ↓r55_0, r55_0, ↓r55_1, r55_1, J55_1_0, J55_1_1, J55_1_2, ↓r55_2, r55_2, ↓r55_3, r55_3, ↓r55_4, r55_4, ↓r55_5, r55_5, ↓r55_6a, r55_6a, ↓r55_6b, r55_6b, ↓r55_7, r55_7, ↓r55_8, r55_8, ↓r55_9, r55_9, ↓r55_10, r55_10, ↓r55_11, r55_11, rp_chk, rpf1, rst1 f2 (y := .nils) rfl]
    · have e4 : decide (0 < d.fuse) = true := decide_eq_true hpos
      have wr : IntKind.i64.wrap (d.fuse - 1) = d.fuse - 1 := by rw [wrap_i64] <;> omega
      simp -implicitDefEqProofs only [↓runK_seq, runK_seq, ↓runK_cond, runK_cond, ↓runK_block, runK_block, ↓runK_loop, runK_loop, ↓runK_skip, runK_skip, ↓runK_ret, runK_ret, ↓runK_exit, runK_exit, ↓seqE_n, seqE_n, ↓seqE_e, seqE_e, ↓seqE_r, seqE_r, ↓blkE_n, blkE_n, ↓blkE_e, blkE_e, ↓blkE_r, blkE_r, ↓retK_n, retK_n, ↓retK_r, retK_r, ↓aCall_fn, aCall_fn, ↓bnd_s, bnd_s, ↓bnd2_s, bnd2_s, ↓onB_t, onB_t, ↓onB_f, onB_f, ↓onG_tt, onG_tt, ↓onG_tf, onG_tf, ↓onG_ft, onG_ft, ↓onG_ff, onG_ff, ↓onG_s, onG_s, ↓onT_t, onT_t, ↓aPick_t, aPick_t, ↓aPick_f, aPick_f, decide_true, decide_false, st_tmp, results1, results2, List.lookup_cons, List.lookup_nil, Nat.reduceBEq, Bool.false_eq_true, ↓reduceIte, BEq.rfl, Nat.reduceLT, Option.getD_some, Option.getD_none, ↓r55_0, r55_0, ↓r55_1, r55_1, J55_1_0, J55_1_1, J55_1_2, ↓r55_2, r55_2, ↓r55_3, r55_3, ↓r55_4, r55_4, ↓r55_5, r55_5, ↓r55_6a, r55_6a, ↓r55_6b, r55_6b, ↓r55_7, r55_7, ↓r55_8, r55_8, ↓r55_9, r55_9, ↓r55_10, r55_10, ↓r55_11, r55_11, rp_chk, rpf3, rld3 hy', rpf2, rld2 hy, bin_eql, e3, bin_gtr, e4, bin_sub, wr, st2 hpos]
      rw [f1]
      simp -implicitDefEqProofs only [↓runK_seq, runK_seq, ↓runK_cond, runK_cond, ↓runK_block, runK_block, ↓runK_loop, runK_loop, ↓runK_skip, runK_skip, ↓runK_ret, runK_ret, ↓runK_exit, runK_exit, ↓seqE_n, seqE_n, ↓seqE_e, seqE_e, ↓seqE_r, seqE_r, ↓blkE_n, blkE_n, ↓blkE_e, blkE_e, ↓blkE_r, blkE_r, ↓retK_n, retK_n, ↓retK_r, retK_r, ↓aCall_fn, aCall_fn, ↓bnd_s, bnd_s, ↓bnd2_s, bnd2_s, ↓onB_t, onB_t, ↓onB_f, onB_f, ↓onG_tt, onG_tt, ↓onG_tf, onG_tf, ↓onG_ft, onG_ft, ↓onG_ff, onG_ff, ↓onG_s, onG_s, ↓onT_t, onT_t, ↓aPick_t, aPick_t, ↓aPick_f, aPick_f, decide_true, decide_false, st_tmp, results1, results2, List.lookup_cons, List.lookup_nil, Nat.reduceBEq, Bool.false_eq_true, ↓reduceIte, BEq.rfl, Nat.reduceLT, Option.getD_some, Option.getD_none, ↓r55_0, r55_0, ↓r55_1, r55_1, J55_1_0, J55_1_1, J55_1_2, ↓r55_2, r55_2, ↓r55_3, r55_3, ↓r55_4, r55_4, ↓r55_5, r55_5, ↓r55_6a, r55_6a, ↓r55_6b, r55_6b, ↓r55_7, r55_7, ↓r55_8, r55_8, ↓r55_9, r55_9, ↓r55_10, r55_10, ↓r55_11, r55_11, rp_chk, rpf1, rst1 f2 (y := .nils) rfl]
  · refine ⟨D.hp, fun hne => D.hr (by intro e; apply hne; simpa [e] using hnl), ⟨.nils, [], ?_, .inl ⟨rfl, rfl⟩, .nil⟩, fun hne => ?_, land_cells _ _ D.cells fun w hw => (D.loose w hw).2, fun w hw => (List.not_mem_nil hw).elim, by show d.now.length ≤ 1024; rw [hnl]; exact D.few⟩
    · rw [List.getElem?_set_self hlt2, hnl]
    · have hne' : d.lasts ≠ [] := by intro e; apply hne; simpa [e] using hnl
      obtain ⟨us, hr, bu⟩ := f3 hne'
      refine ⟨us, ?_, bu⟩
      rw [List.getElem?_set_ne]
      · exact hr
      · intro e
        subst e
        rw [f2] at hr
        cases hr

/-! ### Read -/
def Dk.rread (d : Dk) (i : Int) : List UInt8 := if d.has i then (d.now[i.toNat]?).getD [] else List.replicate 64 0

theorem zerosl : aZeroSl tab 22 (.int .i64 64) (.int .i64 64) = some (.vsl 5 ((List.replicate 64 (0 : UInt8)).map U8) .none) := by kernel_rfl

theorem rread_loop {S : Obs} {p r : Nat} {h : Heap} {d : Dk} (D : Rsk S h p r d) (hl : d.loose.length < 2 ^ 30) (i : Nat) (hi : i < d.lasts.length) (call : CallF) (md : Bool) (N : Nat) :
    ∀ (m j n : Nat) (b : AV), j + m = d.loose.length → m < n → Bs b (((land d.lasts (d.loose.take j))[i]?).getD []) →
    ∃ b', (∀ K : Ex → List AV → Heap → Option (AV × Heap), loopK (fun next => runK C0 call md 57 N B57_1 (seqE next K)) n (st 54 [(0, rp p), (1, .int .i64 i), (5, b), (6, .int .i64 j)]) h =
      K (.exit 0) (st 54 [(0, rp p), (1, .int .i64 i), (5, b'), (6, .int .i64 d.loose.length), (32, .bool false)]) h) ∧ Bs b' ((d.now[i]?).getD []) := by
  obtain ⟨x, vs, hx, ha, hv⟩ := D.var
  have hlen := len72 ha
  rw [hv.length] at hlen
  intro m
  induction m with
  | zero =>
    intro j n b hj hn hb
    obtain ⟨n, rfl⟩ : ∃ j, n = j + 1 := ⟨n - 1, by omega⟩
    obtain rfl : j = d.loose.length := by omega
    refine ⟨b, fun K => ?_, by rw [List.take_length] at hb; exact hb⟩
    rw [loopK_succ]
    generalize loopK (_ : (List AV → Heap → Option (AV × Heap)) → List AV → Heap → Option (AV × Heap)) n = Lp
    have e : decide (((d.loose.length : Nat) : Int) < (d.loose.length : Nat)) = false := decide_eq_false (by omega)
    simp -implicitDefEqProofs only [B57_1, ↓runK_seq, runK_seq, ↓runK_cond, runK_cond, ↓runK_block, runK_block, ↓runK_loop, runK_loop, ↓runK_skip, runK_skip, ↓runK_ret, runK_ret, ↓runK_exit, runK_exit, ↓seqE_n, seqE_n, ↓seqE_e, seqE_e, ↓seqE_r, seqE_r, ↓blkE_n, blkE_n, ↓blkE_e, blkE_e, ↓blkE_r, blkE_r, ↓retK_n, retK_n, ↓retK_r, retK_r, ↓aCall_fn, aCall_fn, ↓bnd_s, bnd_s, ↓bnd2_s, bnd2_s, ↓onB_t, onB_t, ↓onB_f, onB_f, ↓onG_tt, onG_tt, ↓onG_tf, onG_tf, ↓onG_ft, onG_ft, ↓onG_ff, onG_ff, ↓onG_s, onG_s, ↓onT_t, onT_t, ↓aPick_t, aPick_t, ↓aPick_f, aPick_f, decide_true, decide_false, st_tmp, results1, results2, List.lookup_cons, List.lookup_nil, Nat.reduceBEq, Bool.false_eq_true, ↓reduceIte, BEq.rfl, Nat.reduceLT, Option.getD_some, Option.getD_none, ↓r57_0, r57_0, ↓r57_1, r57_1, J57_1_0, J57_1_1, J57_1_2, ↓r57_2, r57_2, ↓r57_3, r57_3, ↓r57_4, r57_4, ↓r57_5, r57_5, ↓r57_6a, r57_6a, ↓r57_6b, r57_6b, ↓r57_7, r57_7, ↓r57_8, r57_8, ↓r57_9, r57_9, rp_chk, rpf1, rld1 hx, hlen, bin_lss, e]
  | succ m ih =>
    intro j n b hj hn hb
    obtain ⟨n, rfl⟩ : ∃ j, n = j + 1 := ⟨n - 1, by omega⟩
    have hlt : j < d.loose.length := by omega
    have hw : d.loose[j]? = some d.loose[j] := List.getElem?_eq_getElem hlt
    have tk : d.loose.take (j + 1) = d.loose.take j ++ [d.loose[j]] := by rw [List.take_add_one, hw]; rfl
    have e : decide (((j : Nat) : Int) < (d.loose.length : Nat)) = true := decide_eq_true (by omega)
    have wr : IntKind.i64.wrap ((j : Int) + 1) = ((j + 1 : Nat) : Int) := by rw [wrap_i64] <;> omega
    obtain ⟨v, hv1, bv⟩ := hv.get hw
    generalize d.loose[j] = u at *
    by_cases hu : u.1 = i
    · have e1 : decide (((u.1 : Nat) : Int) = (i : Nat)) = true := decide_eq_true (by omega)
      obtain ⟨b', g1, g2⟩ := ih (j + 1) n v (by omega) (by omega) (by rw [tk, land_snoc, hu, List.getElem?_set_self (by rw [land_length]; exact hi)]; exact bv)
      refine ⟨b', fun K => ?_, g2⟩
      rw [loopK_succ, ← g1 K]
      generalize loopK (_ : (List AV → Heap → Option (AV × Heap)) → List AV → Heap → Option (AV × Heap)) n = Lp
      simp -implicitDefEqProofs only [B57_1, ↓runK_seq, runK_seq, ↓runK_cond, runK_cond, ↓runK_block, runK_block, ↓runK_loop, runK_loop, ↓runK_skip, runK_skip, ↓runK_ret, runK_ret, ↓runK_exit, runK_exit, ↓seqE_n, seqE_n, ↓seqE_e, seqE_e, ↓seqE_r, seqE_r, ↓blkE_n, blkE_n, ↓blkE_e, blkE_e, ↓blkE_r, blkE_r, ↓retK_n, retK_n, ↓retK_r, retK_r, ↓aCall_fn, aCall_fn, ↓bnd_s, bnd_s, ↓bnd2_s, bnd2_s, ↓onB_t, onB_t, ↓onB_f, onB_f, ↓onG_tt, onG_tt, ↓onG_tf, onG_tf, ↓onG_ft, onG_ft, ↓onG_ff, onG_ff, ↓onG_s, onG_s, ↓onT_t, onT_t, ↓aPick_t, aPick_t, ↓aPick_f, aPick_f, decide_true, decide_false, st_tmp, results1, results2, List.lookup_cons, List.lookup_nil, Nat.reduceBEq, Bool.false_eq_true, ↓reduceIte, BEq.rfl, Nat.reduceLT, Option.getD_some, Option.getD_none, ↓r57_0, r57_0, ↓r57_1, r57_1, J57_1_0, J57_1_1, J57_1_2, ↓r57_2, r57_2, ↓r57_3, r57_3, ↓r57_4, r57_4, ↓r57_5, r57_5, ↓r57_6a, r57_6a, ↓r57_6b, r57_6b, ↓r57_7, r57_7, ↓r57_8, r57_8, ↓r57_9, r57_9, rp_chk, rpf1, rld1 hx, hlen, bin_lss, e, idx72 ha hv1, fa112v_0, load3v, bin_eql, e1, fa112v_1, load22v, bin_add, wr]
    · have e1 : decide (((u.1 : Nat) : Int) = (i : Nat)) = false := decide_eq_false (by omega)
      obtain ⟨b', g1, g2⟩ := ih (j + 1) n b (by omega) (by omega) (by rw [tk, land_snoc, List.getElem?_set_ne hu]; exact hb)
      refine ⟨b', fun K => ?_, g2⟩
      rw [loopK_succ, ← g1 K]
      generalize loopK (_ : (List AV → Heap → Option (AV × Heap)) → List AV → Heap → Option (AV × Heap)) n = Lp
      simp -implicitDefEqProofs only [B57_1, ↓runK_seq, runK_seq, ↓runK_cond, runK_cond, ↓runK_block, runK_block, ↓runK_loop, runK_loop, ↓runK_skip, runK_skip, ↓runK_ret, runK_ret, ↓runK_exit, runK_exit, ↓seqE_n, seqE_n, ↓seqE_e, seqE_e, ↓seqE_r, seqE_r, ↓blkE_n, blkE_n, ↓blkE_e, blkE_e, ↓blkE_r, blkE_r, ↓retK_n, retK_n, ↓retK_r, retK_r, ↓aCall_fn, aCall_fn, ↓bnd_s, bnd_s, ↓bnd2_s, bnd2_s, ↓onB_t, onB_t, ↓onB_f, onB_f, ↓onG_tt, onG_tt, ↓onG_tf, onG_tf, ↓onG_ft, onG_ft, ↓onG_ff, onG_ff, ↓onG_s, onG_s, ↓onT_t, onT_t, ↓aPick_t, aPick_t, ↓aPick_f, aPick_f, decide_true, decide_false, st_tmp, results1, results2, List.lookup_cons, List.lookup_nil, Nat.reduceBEq, Bool.false_eq_true, ↓reduceIte, BEq.rfl, Nat.reduceLT, Option.getD_some, Option.getD_none, ↓r57_0, r57_0, ↓r57_1, r57_1, J57_1_0, J57_1_1, J57_1_2, ↓r57_2, r57_2, ↓r57_3, r57_3, ↓r57_4, r57_4, ↓r57_5, r57_5, ↓r57_6a, r57_6a, ↓r57_6b, r57_6b, ↓r57_7, r57_7, ↓r57_8, r57_8, ↓r57_9, r57_9, rp_chk, rpf1, rld1 hx, hlen, bin_lss, e, idx72 ha hv1, fa112v_0, load3v, bin_eql, e1, bin_add, wr]

theorem rread_ok {S : Obs} {p r : Nat} {h : Heap} {d : Dk} (D : Rsk S h p r d) (hl : d.loose.length < 2 ^ 30) (i : Int) (md : Bool) (k : Nat) (hk : d.loose.length < k) :
    ∃ v, exFn C0 E0 (k + 1) md 57 [rp p, .int .i64 i] h = some (v, h) ∧ Bs v (d.rread i) := by
  obtain ⟨x, vs, hx, ha, hv⟩ := D.var
  have n0 : ([rp p, .int .i64 i] ++ List.replicate (54 - [rp p, .int .i64 i].length) AV.undef) = st 54 [(0, rp p), (1, .int .i64 i)] := rfl
  unfold Dk.rread
  by_cases h0 : d.has i
  · rw [if_pos h0]
    obtain ⟨n, rfl⟩ : ∃ n : Nat, i = n := ⟨i.toNat, by have := h0.1; omega⟩
    have hn : n < d.lasts.length := by have := h0.2; omega
    have q1 : decide ((n : Int) < 0) = false := decide_eq_false (by omega)
    have q2 : decide (((d.lasts.length : Nat) : Int) ≤ (n : Int)) = false := decide_eq_false (by omega)
    have hne : d.lasts ≠ [] := by intro e; rw [e] at hn; simp at hn
    obtain ⟨us, hu, bu⟩ := D.row hne
    obtain ⟨v, hv1, bv⟩ := bu.get (List.getElem?_eq_getElem hn)
    obtain ⟨b', g1, g2⟩ := rread_loop D hl n hn (exFn C0 E0 k) md k d.loose.length 0 k v (by omega) hk (by simpa [land, hn] using bv)
    rw [show ((0 : Nat) : Int) = 0 from rfl] at g1
    refine ⟨b', exFn_of e57 ?_, g2⟩
    rw [fnK, n0, s57]
    simp -implicitDefEqProofs only [↓runK_seq, runK_seq, ↓runK_cond, runK_cond, ↓runK_block, runK_block, ↓runK_loop, runK_loop, ↓runK_skip, runK_skip, ↓runK_ret, runK_ret, ↓runK_exit, runK_exit, ↓seqE_n, seqE_n, ↓seqE_e, seqE_e, ↓seqE_r, seqE_r, ↓blkE_n, blkE_n, ↓blkE_e, blkE_e, ↓blkE_r, blkE_r, ↓retK_n, retK_n, ↓retK_r, retK_r, ↓aCall_fn, aCall_fn, ↓bnd_s, bnd_s, ↓bnd2_s, bnd2_s, ↓onB_t, onB_t, ↓onB_f, onB_f, ↓onG_tt, onG_tt, ↓onG_tf, onG_tf, ↓onG_ft, onG_ft, ↓onG_ff, onG_ff, ↓onG_s, onG_s, ↓onT_t, onT_t, ↓aPick_t, aPick_t, ↓aPick_f, aPick_f, decide_true, decide_false, st_tmp, results1, results2, List.lookup_cons, List.lookup_nil, Nat.reduceBEq, Bool.false_eq_true, ↓reduceIte, BEq.rfl, Nat.reduceLT, Option.getD_some, Option.getD_none, ↓r57_0, r57_0, ↓r57_1, r57_1, J57_1_0, J57_1_1, J57_1_2, ↓r57_2, r57_2, ↓r57_3, r57_3, ↓r57_4, r57_4, ↓r57_5, r57_5, ↓r57_6a, r57_6a, ↓r57_6b, r57_6b, ↓r57_7, r57_7, ↓r57_8, r57_8, ↓r57_9, r57_9, bin_lss, q1, rp_chk, rpf0, rld0 hx, lens, bin_geq, q2, idxs r _ n hn, load_row hu hv1]
    rw [g1]
    simp -implicitDefEqProofs only [↓runK_seq, runK_seq, ↓runK_cond, runK_cond, ↓runK_block, runK_block, ↓runK_loop, runK_loop, ↓runK_skip, runK_skip, ↓runK_ret, runK_ret, ↓runK_exit, runK_exit, ↓seqE_n, seqE_n, ↓seqE_e, seqE_e, ↓seqE_r, seqE_r, ↓blkE_n, blkE_n, ↓blkE_e, blkE_e, ↓blkE_r, blkE_r, ↓retK_n, retK_n, ↓retK_r, retK_r, ↓aCall_fn, aCall_fn, ↓bnd_s, bnd_s, ↓bnd2_s, bnd2_s, ↓onB_t, onB_t, ↓onB_f, onB_f, ↓onG_tt, onG_tt, ↓onG_tf, onG_tf, ↓onG_ft, onG_ft, ↓onG_ff, onG_ff, ↓onG_s, onG_s, ↓onT_t, onT_t, ↓aPick_t, aPick_t, ↓aPick_f, aPick_f, decide_true, decide_false, st_tmp, results1, results2, List.lookup_cons, List.lookup_nil, Nat.reduceBEq, Bool.false_eq_true, ↓reduceIte, BEq.rfl, Nat.reduceLT, Option.getD_some, Option.getD_none, ↓r57_0, r57_0, ↓r57_1, r57_1, J57_1_0, J57_1_1, J57_1_2, ↓r57_2, r57_2, ↓r57_3, r57_3, ↓r57_4, r57_4, ↓r57_5, r57_5, ↓r57_6a, r57_6a, ↓r57_6b, r57_6b, ↓r57_7, r57_7, ↓r57_8, r57_8, ↓r57_9, r57_9]
  · rw [if_neg h0]
    refine ⟨_, exFn_of e57 ?_, .inr ⟨.none, rfl⟩⟩
    rw [fnK, n0, s57]
    by_cases q : i < 0
    · simp -implicitDefEqProofs only [↓runK_seq, runK_seq, ↓runK_cond, runK_cond, ↓runK_block, runK_block, ↓runK_loop, runK_loop, ↓runK_skip, runK_skip, ↓runK_ret, runK_ret, ↓runK_exit, runK_exit, ↓seqE_n, seqE_n, ↓seqE_e, seqE_e, ↓seqE_r, seqE_r, ↓blkE_n, blkE_n, ↓blkE_e, blkE_e, ↓blkE_r, blkE_r, ↓retK_n, retK_n, ↓retK_r, retK_r, ↓aCall_fn, aCall_fn, ↓bnd_s, bnd_s, ↓bnd2_s, bnd2_s, ↓onB_t, onB_t, ↓onB_f, onB_f, ↓onG_tt, onG_tt, ↓onG_tf, onG_tf, ↓onG_ft, onG_ft, ↓onG_ff, onG_ff, ↓onG_s, onG_s, ↓onT_t, onT_t, ↓aPick_t, aPick_t, ↓aPick_f, aPick_f, decide_true, decide_false, st_tmp, results1, results2, List.lookup_cons, List.lookup_nil, Nat.reduceBEq, Bool.false_eq_true, ↓reduceIte, BEq.rfl, Nat.reduceLT, Option.getD_some, Option.getD_none, ↓r57_0, r57_0, ↓r57_1, r57_1, J57_1_0, J57_1_1, J57_1_2, ↓r57_2, r57_2, ↓r57_3, r57_3, ↓r57_4, r57_4, ↓r57_5, r57_5, ↓r57_6a, r57_6a, ↓r57_6b, r57_6b, ↓r57_7, r57_7, ↓r57_8, r57_8, ↓r57_9, r57_9, bin_lss, decide_eq_true q, zerosl]
    · have q2 : ((d.lasts.length : Nat) : Int) ≤ i := by unfold Dk.has at h0; omega
      simp -implicitDefEqProofs only [↓runK_seq, runK_seq, ↓runK_cond, runK_cond, ↓runK_block, runK_block, ↓runK_loop, runK_loop, ↓runK_skip, runK_skip, ↓runK_ret, runK_ret, ↓runK_exit, runK_exit, ↓seqE_n, seqE_n, ↓seqE_e, seqE_e, ↓seqE_r, seqE_r, ↓blkE_n, blkE_n, ↓blkE_e, blkE_e, ↓blkE_r, blkE_r, ↓retK_n, retK_n, ↓retK_r, retK_r, ↓aCall_fn, aCall_fn, ↓bnd_s, bnd_s, ↓bnd2_s, bnd2_s, ↓onB_t, onB_t, ↓onB_f, onB_f, ↓onG_tt, onG_tt, ↓onG_tf, onG_tf, ↓onG_ft, onG_ft, ↓onG_ff, onG_ff, ↓onG_s, onG_s, ↓onT_t, onT_t, ↓aPick_t, aPick_t, ↓aPick_f, aPick_f, decide_true, decide_false, st_tmp, results1, results2, List.lookup_cons, List.lookup_nil, Nat.reduceBEq, Bool.false_eq_true, ↓reduceIte, BEq.rfl, Nat.reduceLT, Option.getD_some, Option.getD_none, ↓r57_0, r57_0, ↓r57_1, r57_1, J57_1_0, J57_1_1, J57_1_2, ↓r57_2, r57_2, ↓r57_3, r57_3, ↓r57_4, r57_4, ↓r57_5, r57_5, ↓r57_6a, r57_6a, ↓r57_6b, r57_6b, ↓r57_7, r57_7, ↓r57_8, r57_8, ↓r57_9, r57_9, bin_lss, decide_eq_false q, rp_chk, rpf0, rld0 hx, lens, bin_geq, decide_eq_true q2, zerosl]

/-! ### end -/
theorem rend_ok {S : Obs} {p r : Nat} {h : Heap} {d : Dk} (D : Rsk S h p r d) (e : Int) (md : Bool) (k : Nat) : exFn C0 E0 (k + 1) md 56 [rp p, .int .i64 e] h = some (.int .i64 (min e d.lasts.length), h) := by
  obtain ⟨x, vs, hx, -, -⟩ := D.var
  refine exFn_of e56 ?_
  rw [fnK, show ([rp p, .int .i64 e] ++ List.replicate (18 - [rp p, .int .i64 e].length) AV.undef) = st 18 [(0, rp p), (1, .int .i64 e)] from rfl, s56]
  by_cases q : ((d.lasts.length : Nat) : Int) < e
  · rw [show min e ((d.lasts.length : Nat) : Int) = ((d.lasts.length : Nat) : Int) by omega]
    simp -implicitDefEqProofs only [↓runK_seq, runK_seq, ↓runK_cond, runK_cond, ↓runK_block, runK_block, ↓runK_loop, runK_loop, ↓runK_skip, runK_skip, ↓runK_ret, runK_ret, ↓runK_exit, runK_exit, ↓seqE_n, seqE_n, ↓seqE_e, seqE_e, ↓seqE_r, seqE_r, ↓blkE_n, blkE_n, ↓blkE_e, blkE_e, ↓blkE_r, blkE_r, ↓retK_n, retK_n, ↓retK_r, retK_r, ↓aCall_fn, aCall_fn, ↓bnd_s, bnd_s, ↓bnd2_s, bnd2_s, ↓onB_t, onB_t, ↓onB_f, onB_f, ↓onG_tt, onG_tt, ↓onG_tf, onG_tf, ↓onG_ft, onG_ft, ↓onG_ff, onG_ff, ↓onG_s, onG_s, ↓onT_t, onT_t, ↓aPick_t, aPick_t, ↓aPick_f, aPick_f, decide_true, decide_false, st_tmp, results1, results2, List.lookup_cons, List.lookup_nil, Nat.reduceBEq, Bool.false_eq_true, ↓reduceIte, BEq.rfl, Nat.reduceLT, Option.getD_some, Option.getD_none, ↓r56_0, r56_0, ↓r56_1, r56_1, ↓r56_2, r56_2, ↓r56_3, r56_3, rp_chk, rpf0, rld0 hx, lens, bin_gtr, decide_eq_true q]
  · rw [show min e ((d.lasts.length : Nat) : Int) = e by omega]
    simp -implicitDefEqProofs only [↓runK_seq, runK_seq, ↓runK_cond, runK_cond, ↓runK_block, runK_block, ↓runK_loop, runK_loop, ↓runK_skip, runK_skip, ↓runK_ret, runK_ret, ↓runK_exit, runK_exit, ↓seqE_n, seqE_n, ↓seqE_e, seqE_e, ↓seqE_r, seqE_r, ↓blkE_n, blkE_n, ↓blkE_e, blkE_e, ↓blkE_r, blkE_r, ↓retK_n, retK_n, ↓retK_r, retK_r, ↓aCall_fn, aCall_fn, ↓bnd_s, bnd_s, ↓bnd2_s, bnd2_s, ↓onB_t, onB_t, ↓onB_f, onB_f, ↓onG_tt, onG_tt, ↓onG_tf, onG_tf, ↓onG_ft, onG_ft, ↓onG_ff, onG_ff, ↓onG_s, onG_s, ↓onT_t, onT_t, ↓aPick_t, aPick_t, ↓aPick_f, aPick_f, decide_true, decide_false, st_tmp, results1, results2, List.lookup_cons, List.lookup_nil, Nat.reduceBEq, Bool.false_eq_true, ↓reduceIte, BEq.rfl, Nat.reduceLT, Option.getD_some, Option.getD_none, ↓r56_0, r56_0, ↓r56_1, r56_1, ↓r56_2, r56_2, ↓r56_3, r56_3, rp_chk, rpf0, rld0 hx, lens, bin_gtr, decide_eq_false q]
end Go.Ax

/- What the regions of some functions hand on. Printed by a program of mine (gen.py). -/
set_option linter.unusedVariables false
namespace Go.Ax
open Go Go.Proofs
/-! ### interregnum/interregnumref01.NewDisk -/
noncomputable def O39 (i : Nat) : Array Oper := opsOf i (bodyOf Try.f39)
noncomputable def B39_1 : Code := (.seq (.seq (.region 7 (O39 7) false) (.cond (Go.Operand.tmp 13) .skip (.exit 0))) (.seq (.block 1 (.region 9 (O39 9) true)) (.region 8 (O39 8) false)))
theorem s39 : bodyOf Try.f39 = (.seq (.region 0 (O39 0) false) (.seq (.seq (.region 1 (O39 1) false) (.cond (Go.Operand.tmp 6) (.region 2 (O39 2) false) .skip)) (.seq (.seq (.region 3 (O39 3) false) (.cond (Go.Operand.tmp 8) (.region 4 (O39 4) false) .skip)) (.seq (.region 5 (O39 5) false) (.seq (.seq (.region 6 (O39 6) false) (.block 0 (.loop B39_1))) (.seq (.region 10 (O39 10) false) .ret)))))) := by kernel_rfl
theorem e39 : E0 39 = some ⟨27, [2], bodyOf Try.f39⟩ := by kernel_rfl
theorem r39_0 {β : Type} (call : CallF) (md : Bool) (n : Nat) (k : Ex → List AV → Heap → Option β) (x0 : AV) (h : Heap) :
    runK C0 call md 39 n (.region 0 (O39 0) false) k (st 27 [(0, x0)]) h =
    k .normal (st 27 [(0, x0)]) h
  := by kernel_rfl
theorem r39_1 {β : Type} (call : CallF) (md : Bool) (n : Nat) (k : Ex → List AV → Heap → Option β) (x0 : AV) (h : Heap) :
    runK C0 call md 39 n (.region 1 (O39 1) false) k (st 27 [(0, x0)]) h =
    bnd (aBinC tab .lss 3 x0 (.int .i64 0) true) fun v1 =>
    k .normal (st 27 [(0, x0), (6, v1)]) h
  := by kernel_rfl
theorem r39_2 {β : Type} (call : CallF) (md : Bool) (n : Nat) (k : Ex → List AV → Heap → Option β) (x0 x6 : AV) (h : Heap) :
    runK C0 call md 39 n (.region 2 (O39 2) false) k (st 27 [(0, x0), (6, x6)]) h =
    k .normal (st 27 [(0, (.int .i64 0))]) h
  := by kernel_rfl
theorem r39_3a {β : Type} (call : CallF) (md : Bool) (n : Nat) (k : Ex → List AV → Heap → Option β) (x0 x6 : AV) (h : Heap) :
    runK C0 call md 39 n (.region 3 (O39 3) false) k (st 27 [(0, x0), (6, x6)]) h =
    bnd (aBinC tab .gtr 3 x0 (.int .i64 1024) true) fun v1 =>
    k .normal (st 27 [(0, x0), (8, v1)]) h
  := by kernel_rfl
theorem r39_3b {β : Type} (call : CallF) (md : Bool) (n : Nat) (k : Ex → List AV → Heap → Option β) (x0 : AV) (h : Heap) :
    runK C0 call md 39 n (.region 3 (O39 3) false) k (st 27 [(0, x0)]) h =
    bnd (aBinC tab .gtr 3 x0 (.int .i64 1024) true) fun v1 =>
    k .normal (st 27 [(0, x0), (8, v1)]) h
  := by kernel_rfl
theorem r39_4 {β : Type} (call : CallF) (md : Bool) (n : Nat) (k : Ex → List AV → Heap → Option β) (x0 x8 : AV) (h : Heap) :
    runK C0 call md 39 n (.region 4 (O39 4) false) k (st 27 [(0, x0), (8, x8)]) h =
    k .normal (st 27 [(0, (.int .i64 1024))]) h
  := by kernel_rfl
theorem r39_5a {β : Type} (call : CallF) (md : Bool) (n : Nat) (k : Ex → List AV → Heap → Option β) (x0 x8 : AV) (h : Heap) :
    runK C0 call md 39 n (.region 5 (O39 5) false) k (st 27 [(0, x0), (8, x8)]) h =
    bnd (aBuild tab 74 [(2, (.int .i64 (-1)))]) fun v1 =>
    bnd2 (aBoxv tab 74 v1 h) fun v2 h3 =>
    k .normal (st 27 [(0, x0), (3, v2)]) h3
  := by kernel_rfl
theorem r39_5b {β : Type} (call : CallF) (md : Bool) (n : Nat) (k : Ex → List AV → Heap → Option β) (x0 : AV) (h : Heap) :
    runK C0 call md 39 n (.region 5 (O39 5) false) k (st 27 [(0, x0)]) h =
    bnd (aBuild tab 74 [(2, (.int .i64 (-1)))]) fun v1 =>
    bnd2 (aBoxv tab 74 v1 h) fun v2 h3 =>
    k .normal (st 27 [(0, x0), (3, v2)]) h3
  := by kernel_rfl
theorem r39_6 {β : Type} (call : CallF) (md : Bool) (n : Nat) (k : Ex → List AV → Heap → Option β) (x0 x3 : AV) (h : Heap) :
    runK C0 call md 39 n (.region 6 (O39 6) false) k (st 27 [(0, x0), (3, x3)]) h =
    k .normal (st 27 [(0, x0), (3, x3), (4, (.int .i64 0))]) h
  := by kernel_rfl
theorem r39_7 {β : Type} (call : CallF) (md : Bool) (n : Nat) (k : Ex → List AV → Heap → Option β) (x0 x3 x4 : AV) (h : Heap) :
    runK C0 call md 39 n (.region 7 (O39 7) false) k (st 27 [(0, x0), (3, x3), (4, x4)]) h =
    bnd (aBinC tab .lss 3 x4 x0 false) fun v1 =>
    k .normal (st 27 [(0, x0), (3, x3), (4, x4), (13, v1)]) h
  := by kernel_rfl
theorem r39_8 {β : Type} (call : CallF) (md : Bool) (n : Nat) (k : Ex → List AV → Heap → Option β) (x0 x3 x4 : AV) (h : Heap) :
    runK C0 call md 39 n (.region 8 (O39 8) false) k (st 27 [(0, x0), (3, x3), (4, x4)]) h =
    bnd (aBinC tab .add 3 x4 (.int .i64 1) true) fun v1 =>
    k .normal (st 27 [(0, x0), (3, x3), (4, v1)]) h
  := by kernel_rfl
theorem r39_9 {β : Type} (call : CallF) (md : Bool) (n : Nat) (k : Ex → List AV → Heap → Option β) (x0 x3 x4 x13 : AV) (h : Heap) :
    runK C0 call md 39 n (.region 9 (O39 9) true) k (st 27 [(0, x0), (3, x3), (4, x4), (13, x13)]) h =
    bnd (aNil x3) fun v1 =>
    bnd (aFieldAddr tab 74 v1 0) fun v2 =>
    bnd (aLoad tab 30 v2 h) fun v3 =>
    bnd (aZeroSl tab 22 (.int .i64 64) (.int .i64 64)) fun v4 =>
    bnd (aLit tab 30 1 [(0, v4)]) fun v5 =>
    bnd2 (aApp tab 30 30 true v3 v5 h) fun v6 h7 =>
    bnd (aNil x3) fun v8 =>
    bnd (aFieldAddr tab 74 v8 0) fun v9 =>
    bnd (aStore tab 30 v9 v6 h7) fun h10 =>
    k .normal (st 27 [(0, x0), (3, x3), (4, x4)]) h10
  := by kernel_rfl
theorem r39_10 {β : Type} (call : CallF) (md : Bool) (n : Nat) (k : Ex → List AV → Heap → Option β) (x0 x3 x4 x13 : AV) (h : Heap) :
    runK C0 call md 39 n (.region 10 (O39 10) false) k (st 27 [(0, x0), (3, x3), (4, x4), (13, x13)]) h =
    k .normal (st 27 [(2, x3)]) h
  := by kernel_rfl
end Go.Ax
