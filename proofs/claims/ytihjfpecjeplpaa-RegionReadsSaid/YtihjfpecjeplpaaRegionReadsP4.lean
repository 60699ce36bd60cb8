/- What the functions that RegionReads reaches compute (part 4); each for the inputs that its theorem names. -/
import Derived.Test.YtihjfpecjeplpaaRegionReadsP3
set_option linter.unusedSimpArgs false
set_option linter.unusedVariables false

/- What the regions of some functions hand on. Printed by a program of mine (gen.py). -/
set_option linter.unusedVariables false
namespace Go.Ax
open Go Go.Proofs
/-! ### (*interregnum/interregnumref01.Disk).Scan -/
noncomputable def O28 (i : Nat) : Array Oper := opsOf i (bodyOf Try.f28)
noncomputable def B28_1 : Code := (.seq (.seq (.region 9 (O28 9) false) (.cond (Go.Operand.tmp 57) .skip (.exit 2))) (.seq (.block 3 (.region 11 (O28 11) false)) (.region 10 (O28 10) false)))
noncomputable def B28_2 : Code := (.seq (.seq (.region 16 (O28 16) false) (.cond (Go.Operand.tmp 75) .skip (.exit 4))) (.seq (.block 5 (.region 18 (O28 18) true)) (.region 17 (O28 17) false)))
noncomputable def B28_3 : Code := (.seq (.seq (.region 2 (O28 2) false) (.cond (Go.Operand.tmp 27) .skip (.exit 0))) (.block 1 (.seq (.region 3 (O28 3) false) (.seq (.region 4 (O28 4) false) (.seq (.region 5 (O28 5) false) (.seq (.seq (.region 6 (O28 6) false) (.cond (Go.Operand.tmp 54) (.exit 0) .skip)) (.seq (.region 7 (O28 7) false) (.seq (.seq (.region 8 (O28 8) false) (.block 2 (.loop B28_1))) (.seq (.region 12 (O28 12) false) (.seq (.region 13 (O28 13) false) (.seq (.region 14 (O28 14) false) (.seq (.seq (.region 15 (O28 15) false) (.block 4 (.loop B28_2))) (.seq (.seq (.region 19 (O28 19) false) (.cond (Go.Operand.tmp 92) (.exit 0) .skip)) (.seq (.region 20 (O28 20) false) (.region 21 (O28 21) false)))))))))))))))
theorem s28 : bodyOf Try.f28 = (.seq (.region 0 (O28 0) false) (.seq (.region 1 (O28 1) false) (.seq (.block 0 (.loop B28_3)) (.seq (.region 22 (O28 22) false) .ret)))) := by kernel_rfl
theorem e28 : E0 28 = some ⟨102, [8, 9], bodyOf Try.f28⟩ := by kernel_rfl
theorem r28_0 {β : Type} (call : CallF) (md : Bool) (n : Nat) (k : Ex → List AV → Heap → Option β) (x0 x1 x2 x3 : AV) (h : Heap) :
    runK C0 call md 28 n (.region 0 (O28 0) false) k (st 102 [(0, x0), (1, x1), (2, x2), (3, x3)]) h =
    k .normal (st 102 [(0, x0), (1, x1), (2, x2), (3, x3)]) h
  := by kernel_rfl
theorem r28_1 {β : Type} (call : CallF) (md : Bool) (n : Nat) (k : Ex → List AV → Heap → Option β) (x0 x1 x2 x3 : AV) (h : Heap) :
    runK C0 call md 28 n (.region 1 (O28 1) false) k (st 102 [(0, x0), (1, x1), (2, x2), (3, x3)]) h =
    k .normal (st 102 [(0, x0), (1, x1), (2, x2), (3, x3), (10, .nils)]) h
  := by kernel_rfl
def J28_2_2 {β : Type} (call : CallF) (md : Bool) (k : Ex → List AV → Heap → Option β) (x0 x1 x2 x3 x10 x21 x26 : AV) (h : Heap) : Option β :=
    bnd (aPick x21 x26 (.bool false)) fun v1 =>
    k .normal (st 102 [(0, x0), (1, x1), (2, x2), (3, x3), (10, x10), (27, v1)]) h

theorem j28_2_2 {β : Type} (call : CallF) (md : Bool) (k : Ex → List AV → Heap → Option β) (x0 x1 x2 x3 x10 x19 x20 x21 x22 x23 x24 x25 x26 : AV) (h : Heap) :
    opsK C0 call md 28 (O28 2) ((O28 2).toList.drop 8) (st 102 [(0, x0), (1, x1), (2, x2), (3, x3), (10, x10), (19, x19), (20, x20), (21, x21), (22, x22), (23, x23), (24, x24), (25, x25), (26, x26)]) h (fun tm h => k .normal (clr (C0.keep 28 2) tm) h) = J28_2_2 call md k x0 x1 x2 x3 x10 x21 x26 h := by kernel_rfl
def J28_2_1 {β : Type} (call : CallF) (md : Bool) (k : Ex → List AV → Heap → Option β) (x0 x1 x2 x3 x10 x21 : AV) (h : Heap) : Option β :=
    onG true x21 (
      bnd2 (aCall call md (.fn (.func 56) []) [x0, x2] h) fun v3 h4 =>
      bnd (aBinC tab .lss 3 x1 v3 false) fun v5 =>
      J28_2_2 call md k x0 x1 x2 x3 x10 x21 v5 h4) (
      J28_2_2 call md k x0 x1 x2 x3 x10 x21 .skip h)

theorem g28_2_1 {β : Type} (call : CallF) (md : Bool) (kk : List AV → Heap → Option β) (x0 x1 x2 x3 x10 x19 x20 x21 : AV) (h : Heap) :
    opsK C0 call md 28 (O28 2) (((O28 2).toList.drop 3).take 5) (st 102 [(0, x0), (1, x1), (2, x2), (3, x3), (10, x10), (19, x19), (20, x20), (21, x21)]) h kk =
    onG true x21 (
      bnd2 (aCall call md (.fn (.func 56) []) [x0, x2] h) fun v6 h7 =>
      bnd (aBinC tab .lss 3 x1 v6 false) fun v8 =>
      kk (st 102 [(0, x0), (1, x1), (2, x2), (3, x3), (10, x10), (19, x19), (20, x20), (21, x21), (22, x1), (23, x0), (24, x2), (25, v6), (26, v8)]) h7) (
      kk (st 102 [(0, x0), (1, x1), (2, x2), (3, x3), (10, x10), (19, x19), (20, x20), (21, x21), (22, .skip), (23, .skip), (24, .skip), (25, .skip), (26, .skip)]) h)
  := by cases x21 with | bool b => (cases b <;> kernel_rfl) | _ => kernel_rfl
theorem j28_2_1 {β : Type} (call : CallF) (md : Bool) (k : Ex → List AV → Heap → Option β) (x0 x1 x2 x3 x10 x19 x20 x21 : AV) (h : Heap) :
    opsK C0 call md 28 (O28 2) ((O28 2).toList.drop 3) (st 102 [(0, x0), (1, x1), (2, x2), (3, x3), (10, x10), (19, x19), (20, x20), (21, x21)]) h (fun tm h => k .normal (clr (C0.keep 28 2) tm) h) = J28_2_1 call md k x0 x1 x2 x3 x10 x21 h := by
  have e : ((O28 2).toList.drop 3) = ((O28 2).toList.drop 3).take 5 ++ (O28 2).toList.drop 8 := by kernel_rfl
  rw [show opsK C0 call md 28 (O28 2) ((O28 2).toList.drop 3) = opsK C0 call md 28 (O28 2) (((O28 2).toList.drop 3).take 5 ++ (O28 2).toList.drop 8) from congrArg _ e]
  rw [opsK_append, g28_2_1]
  simp only [j28_2_2]
  rfl
def J28_2_0 {β : Type} (call : CallF) (md : Bool) (k : Ex → List AV → Heap → Option β) (x0 x1 x2 x3 x10 : AV) (h : Heap) : Option β :=
    bnd (aBinC tab .geq 3 x1 (.int .i64 0) true) fun v9 =>
    J28_2_1 call md k x0 x1 x2 x3 x10 v9 h

theorem g28_2_0 {β : Type} (call : CallF) (md : Bool) (kk : List AV → Heap → Option β) (x0 x1 x2 x3 x10 : AV) (h : Heap) :
    opsK C0 call md 28 (O28 2) ((O28 2).toList.take 3) (st 102 [(0, x0), (1, x1), (2, x2), (3, x3), (10, x10)]) h kk =
    bnd (aBinC tab .geq 3 x1 (.int .i64 0) true) fun v10 =>
    kk (st 102 [(0, x0), (1, x1), (2, x2), (3, x3), (10, x10), (19, x1), (20, v10), (21, v10)]) h
  := by kernel_rfl
theorem j28_2_0 {β : Type} (call : CallF) (md : Bool) (k : Ex → List AV → Heap → Option β) (x0 x1 x2 x3 x10 : AV) (h : Heap) :
    opsK C0 call md 28 (O28 2) (O28 2).toList (st 102 [(0, x0), (1, x1), (2, x2), (3, x3), (10, x10)]) h (fun tm h => k .normal (clr (C0.keep 28 2) tm) h) = J28_2_0 call md k x0 x1 x2 x3 x10 h := by
  have e : (O28 2).toList = (O28 2).toList.take 3 ++ (O28 2).toList.drop 3 := by kernel_rfl
  rw [show opsK C0 call md 28 (O28 2) (O28 2).toList = opsK C0 call md 28 (O28 2) ((O28 2).toList.take 3 ++ (O28 2).toList.drop 3) from congrArg _ e]
  rw [opsK_append, g28_2_0]
  simp only [j28_2_1]
  rfl
theorem r28_2 {β : Type} (call : CallF) (md : Bool) (n : Nat) (k : Ex → List AV → Heap → Option β) (x0 x1 x2 x3 x10 : AV) (h : Heap) :
    runK C0 call md 28 n (.region 2 (O28 2) false) k (st 102 [(0, x0), (1, x1), (2, x2), (3, x3), (10, x10)]) h = J28_2_0 call md k x0 x1 x2 x3 x10 h := (runK_region C0 call md 28 n 2 (O28 2) k (st 102 [(0, x0), (1, x1), (2, x2), (3, x3), (10, x10)]) h).trans (j28_2_0 call md k x0 x1 x2 x3 x10 h)
theorem r28_3 {β : Type} (call : CallF) (md : Bool) (n : Nat) (k : Ex → List AV → Heap → Option β) (x0 x1 x2 x3 x10 x27 : AV) (h : Heap) :
    runK C0 call md 28 n (.region 3 (O28 3) false) k (st 102 [(0, x0), (1, x1), (2, x2), (3, x3), (10, x10), (27, x27)]) h =
    bnd2 (aCall call md (.fn (.func 57) []) [x0, x1] h) fun v1 h2 =>
    k .normal (st 102 [(0, x0), (1, x1), (2, x2), (3, x3), (10, x10), (11, v1)]) h2
  := by kernel_rfl
theorem r28_4 {β : Type} (call : CallF) (md : Bool) (n : Nat) (k : Ex → List AV → Heap → Option β) (x0 x1 x2 x3 x10 x11 : AV) (h : Heap) :
    runK C0 call md 28 n (.region 4 (O28 4) false) k (st 102 [(0, x0), (1, x1), (2, x2), (3, x3), (10, x10), (11, x11)]) h =
    bnd (aSlice tab 22 x11 (some (.int .i64 4)) none none) fun v1 =>
    bnd2 (aCall call md (.fn (.func 58) []) [v1] h) fun v2 h3 =>
    k .normal (st 102 [(0, x0), (1, x1), (2, x2), (3, x3), (10, x10), (11, x11), (12, v2)]) h3
  := by kernel_rfl
theorem r28_5 {β : Type} (call : CallF) (md : Bool) (n : Nat) (k : Ex → List AV → Heap → Option β) (x0 x1 x2 x3 x10 x11 x12 : AV) (h : Heap) :
    runK C0 call md 28 n (.region 5 (O28 5) false) k (st 102 [(0, x0), (1, x1), (2, x2), (3, x3), (10, x10), (11, x11), (12, x12)]) h =
    bnd (aBinC tab .add 3 x12 (.int .i64 63) true) fun v1 =>
    bnd (aBinC tab .quo 3 v1 (.int .i64 64) true) fun v2 =>
    bnd (aBinC tab .add 3 (.int .i64 1) v2 true) fun v3 =>
    k .normal (st 102 [(0, x0), (1, x1), (2, x2), (3, x3), (10, x10), (11, x11), (12, x12), (13, v3)]) h
  := by kernel_rfl
def J28_6_4 {β : Type} (call : CallF) (md : Bool) (k : Ex → List AV → Heap → Option β) (x0 x1 x2 x3 x10 x12 x13 x46 x53 : AV) (h : Heap) : Option β :=
    bnd (aPick x46 (.bool true) x53) fun v1 =>
    k .normal (st 102 [(0, x0), (1, x1), (2, x2), (3, x3), (10, x10), (12, x12), (13, x13), (54, v1)]) h

theorem j28_6_4 {β : Type} (call : CallF) (md : Bool) (k : Ex → List AV → Heap → Option β) (x0 x1 x2 x3 x10 x11 x12 x13 x38 x39 x40 x41 x42 x43 x44 x45 x46 x47 x48 x49 x50 x51 x52 x53 : AV) (h : Heap) :
    opsK C0 call md 28 (O28 6) ((O28 6).toList.drop 16) (st 102 [(0, x0), (1, x1), (2, x2), (3, x3), (10, x10), (11, x11), (12, x12), (13, x13), (38, x38), (39, x39), (40, x40), (41, x41), (42, x42), (43, x43), (44, x44), (45, x45), (46, x46), (47, x47), (48, x48), (49, x49), (50, x50), (51, x51), (52, x52), (53, x53)]) h (fun tm h => k .normal (clr (C0.keep 28 6) tm) h) = J28_6_4 call md k x0 x1 x2 x3 x10 x12 x13 x46 x53 h := by kernel_rfl
def J28_6_3 {β : Type} (call : CallF) (md : Bool) (k : Ex → List AV → Heap → Option β) (x0 x1 x2 x3 x10 x12 x13 x46 : AV) (h : Heap) : Option β :=
    onG false x46 (
      bnd2 (aCall call md (.fn (.func 56) []) [x0, x2] h) fun v3 h4 =>
      bnd (aBinC tab .sub 3 v3 x1 false) fun v5 =>
      bnd (aBinC tab .gtr 3 x13 v5 false) fun v6 =>
      J28_6_4 call md k x0 x1 x2 x3 x10 x12 x13 x46 v6 h4) (
      J28_6_4 call md k x0 x1 x2 x3 x10 x12 x13 x46 .skip h)

theorem g28_6_3 {β : Type} (call : CallF) (md : Bool) (kk : List AV → Heap → Option β) (x0 x1 x2 x3 x10 x11 x12 x13 x38 x39 x40 x41 x42 x43 x44 x45 x46 : AV) (h : Heap) :
    opsK C0 call md 28 (O28 6) (((O28 6).toList.drop 9).take 7) (st 102 [(0, x0), (1, x1), (2, x2), (3, x3), (10, x10), (11, x11), (12, x12), (13, x13), (38, x38), (39, x39), (40, x40), (41, x41), (42, x42), (43, x43), (44, x44), (45, x45), (46, x46)]) h kk =
    onG false x46 (
      bnd2 (aCall call md (.fn (.func 56) []) [x0, x2] h) fun v7 h8 =>
      bnd (aBinC tab .sub 3 v7 x1 false) fun v9 =>
      bnd (aBinC tab .gtr 3 x13 v9 false) fun v10 =>
      kk (st 102 [(0, x0), (1, x1), (2, x2), (3, x3), (10, x10), (11, x11), (12, x12), (13, x13), (38, x38), (39, x39), (40, x40), (41, x41), (42, x42), (43, x43), (44, x44), (45, x45), (46, x46), (47, x13), (48, x0), (49, x2), (50, v7), (51, x1), (52, v9), (53, v10)]) h8) (
      kk (st 102 [(0, x0), (1, x1), (2, x2), (3, x3), (10, x10), (11, x11), (12, x12), (13, x13), (38, x38), (39, x39), (40, x40), (41, x41), (42, x42), (43, x43), (44, x44), (45, x45), (46, x46), (47, .skip), (48, .skip), (49, .skip), (50, .skip), (51, .skip), (52, .skip), (53, .skip)]) h)
  := by cases x46 with | bool b => (cases b <;> kernel_rfl) | _ => kernel_rfl
theorem j28_6_3 {β : Type} (call : CallF) (md : Bool) (k : Ex → List AV → Heap → Option β) (x0 x1 x2 x3 x10 x11 x12 x13 x38 x39 x40 x41 x42 x43 x44 x45 x46 : AV) (h : Heap) :
    opsK C0 call md 28 (O28 6) ((O28 6).toList.drop 9) (st 102 [(0, x0), (1, x1), (2, x2), (3, x3), (10, x10), (11, x11), (12, x12), (13, x13), (38, x38), (39, x39), (40, x40), (41, x41), (42, x42), (43, x43), (44, x44), (45, x45), (46, x46)]) h (fun tm h => k .normal (clr (C0.keep 28 6) tm) h) = J28_6_3 call md k x0 x1 x2 x3 x10 x12 x13 x46 h := by
  have e : ((O28 6).toList.drop 9) = ((O28 6).toList.drop 9).take 7 ++ (O28 6).toList.drop 16 := by kernel_rfl
  rw [show opsK C0 call md 28 (O28 6) ((O28 6).toList.drop 9) = opsK C0 call md 28 (O28 6) (((O28 6).toList.drop 9).take 7 ++ (O28 6).toList.drop 16) from congrArg _ e]
  rw [opsK_append, g28_6_3]
  simp only [j28_6_4]
  rfl
def J28_6_2 {β : Type} (call : CallF) (md : Bool) (k : Ex → List AV → Heap → Option β) (x0 x1 x2 x3 x10 x12 x13 x42 x44 : AV) (h : Heap) : Option β :=
    bnd (aPick x42 (.bool true) x44) fun v11 =>
    J28_6_3 call md k x0 x1 x2 x3 x10 x12 x13 v11 h

theorem g28_6_2 {β : Type} (call : CallF) (md : Bool) (kk : List AV → Heap → Option β) (x0 x1 x2 x3 x10 x11 x12 x13 x38 x39 x40 x41 x42 x43 x44 : AV) (h : Heap) :
    opsK C0 call md 28 (O28 6) (((O28 6).toList.drop 7).take 2) (st 102 [(0, x0), (1, x1), (2, x2), (3, x3), (10, x10), (11, x11), (12, x12), (13, x13), (38, x38), (39, x39), (40, x40), (41, x41), (42, x42), (43, x43), (44, x44)]) h kk =
    bnd (aPick x42 (.bool true) x44) fun v12 =>
    kk (st 102 [(0, x0), (1, x1), (2, x2), (3, x3), (10, x10), (11, x11), (12, x12), (13, x13), (38, x38), (39, x39), (40, x40), (41, x41), (42, x42), (43, x43), (44, x44), (45, v12), (46, v12)]) h
  := by kernel_rfl
theorem j28_6_2 {β : Type} (call : CallF) (md : Bool) (k : Ex → List AV → Heap → Option β) (x0 x1 x2 x3 x10 x11 x12 x13 x38 x39 x40 x41 x42 x43 x44 : AV) (h : Heap) :
    opsK C0 call md 28 (O28 6) ((O28 6).toList.drop 7) (st 102 [(0, x0), (1, x1), (2, x2), (3, x3), (10, x10), (11, x11), (12, x12), (13, x13), (38, x38), (39, x39), (40, x40), (41, x41), (42, x42), (43, x43), (44, x44)]) h (fun tm h => k .normal (clr (C0.keep 28 6) tm) h) = J28_6_2 call md k x0 x1 x2 x3 x10 x12 x13 x42 x44 h := by
  have e : ((O28 6).toList.drop 7) = ((O28 6).toList.drop 7).take 2 ++ (O28 6).toList.drop 9 := by kernel_rfl
  rw [show opsK C0 call md 28 (O28 6) ((O28 6).toList.drop 7) = opsK C0 call md 28 (O28 6) (((O28 6).toList.drop 7).take 2 ++ (O28 6).toList.drop 9) from congrArg _ e]
  rw [opsK_append, g28_6_2]
  simp only [j28_6_3]
  rfl
def J28_6_1 {β : Type} (call : CallF) (md : Bool) (k : Ex → List AV → Heap → Option β) (x0 x1 x2 x3 x10 x12 x13 x42 : AV) (h : Heap) : Option β :=
    onG false x42 (
      bnd (aBinC tab .gtr 3 x12 (.int .i64 8192) true) fun v13 =>
      J28_6_2 call md k x0 x1 x2 x3 x10 x12 x13 x42 v13 h) (
      J28_6_2 call md k x0 x1 x2 x3 x10 x12 x13 x42 .skip h)

theorem g28_6_1 {β : Type} (call : CallF) (md : Bool) (kk : List AV → Heap → Option β) (x0 x1 x2 x3 x10 x11 x12 x13 x38 x39 x40 x41 x42 : AV) (h : Heap) :
    opsK C0 call md 28 (O28 6) (((O28 6).toList.drop 5).take 2) (st 102 [(0, x0), (1, x1), (2, x2), (3, x3), (10, x10), (11, x11), (12, x12), (13, x13), (38, x38), (39, x39), (40, x40), (41, x41), (42, x42)]) h kk =
    onG false x42 (
      bnd (aBinC tab .gtr 3 x12 (.int .i64 8192) true) fun v14 =>
      kk (st 102 [(0, x0), (1, x1), (2, x2), (3, x3), (10, x10), (11, x11), (12, x12), (13, x13), (38, x38), (39, x39), (40, x40), (41, x41), (42, x42), (43, x12), (44, v14)]) h) (
      kk (st 102 [(0, x0), (1, x1), (2, x2), (3, x3), (10, x10), (11, x11), (12, x12), (13, x13), (38, x38), (39, x39), (40, x40), (41, x41), (42, x42), (43, .skip), (44, .skip)]) h)
  := by cases x42 with | bool b => (cases b <;> kernel_rfl) | _ => kernel_rfl
theorem j28_6_1 {β : Type} (call : CallF) (md : Bool) (k : Ex → List AV → Heap → Option β) (x0 x1 x2 x3 x10 x11 x12 x13 x38 x39 x40 x41 x42 : AV) (h : Heap) :
    opsK C0 call md 28 (O28 6) ((O28 6).toList.drop 5) (st 102 [(0, x0), (1, x1), (2, x2), (3, x3), (10, x10), (11, x11), (12, x12), (13, x13), (38, x38), (39, x39), (40, x40), (41, x41), (42, x42)]) h (fun tm h => k .normal (clr (C0.keep 28 6) tm) h) = J28_6_1 call md k x0 x1 x2 x3 x10 x12 x13 x42 h := by
  have e : ((O28 6).toList.drop 5) = ((O28 6).toList.drop 5).take 2 ++ (O28 6).toList.drop 7 := by kernel_rfl
  rw [show opsK C0 call md 28 (O28 6) ((O28 6).toList.drop 5) = opsK C0 call md 28 (O28 6) (((O28 6).toList.drop 5).take 2 ++ (O28 6).toList.drop 7) from congrArg _ e]
  rw [opsK_append, g28_6_1]
  simp only [j28_6_2]
  rfl
def J28_6_0 {β : Type} (call : CallF) (md : Bool) (k : Ex → List AV → Heap → Option β) (x0 x1 x2 x3 x10 x11 x12 x13 : AV) (h : Heap) : Option β :=
    bnd2 (aCall call md (.fn (.func 58) []) [x11] h) fun v15 h16 =>
    bnd (aBinC tab .neq 3 v15 x3 false) fun v17 =>
    J28_6_1 call md k x0 x1 x2 x3 x10 x12 x13 v17 h16

theorem g28_6_0 {β : Type} (call : CallF) (md : Bool) (kk : List AV → Heap → Option β) (x0 x1 x2 x3 x10 x11 x12 x13 : AV) (h : Heap) :
    opsK C0 call md 28 (O28 6) ((O28 6).toList.take 5) (st 102 [(0, x0), (1, x1), (2, x2), (3, x3), (10, x10), (11, x11), (12, x12), (13, x13)]) h kk =
    bnd2 (aCall call md (.fn (.func 58) []) [x11] h) fun v18 h19 =>
    bnd (aBinC tab .neq 3 v18 x3 false) fun v20 =>
    kk (st 102 [(0, x0), (1, x1), (2, x2), (3, x3), (10, x10), (11, x11), (12, x12), (13, x13), (38, x11), (39, v18), (40, x3), (41, v20), (42, v20)]) h19
  := by kernel_rfl
theorem j28_6_0 {β : Type} (call : CallF) (md : Bool) (k : Ex → List AV → Heap → Option β) (x0 x1 x2 x3 x10 x11 x12 x13 : AV) (h : Heap) :
    opsK C0 call md 28 (O28 6) (O28 6).toList (st 102 [(0, x0), (1, x1), (2, x2), (3, x3), (10, x10), (11, x11), (12, x12), (13, x13)]) h (fun tm h => k .normal (clr (C0.keep 28 6) tm) h) = J28_6_0 call md k x0 x1 x2 x3 x10 x11 x12 x13 h := by
  have e : (O28 6).toList = (O28 6).toList.take 5 ++ (O28 6).toList.drop 5 := by kernel_rfl
  rw [show opsK C0 call md 28 (O28 6) (O28 6).toList = opsK C0 call md 28 (O28 6) ((O28 6).toList.take 5 ++ (O28 6).toList.drop 5) from congrArg _ e]
  rw [opsK_append, g28_6_0]
  simp only [j28_6_1]
  rfl
theorem r28_6 {β : Type} (call : CallF) (md : Bool) (n : Nat) (k : Ex → List AV → Heap → Option β) (x0 x1 x2 x3 x10 x11 x12 x13 : AV) (h : Heap) :
    runK C0 call md 28 n (.region 6 (O28 6) false) k (st 102 [(0, x0), (1, x1), (2, x2), (3, x3), (10, x10), (11, x11), (12, x12), (13, x13)]) h = J28_6_0 call md k x0 x1 x2 x3 x10 x11 x12 x13 h := (runK_region C0 call md 28 n 6 (O28 6) k (st 102 [(0, x0), (1, x1), (2, x2), (3, x3), (10, x10), (11, x11), (12, x12), (13, x13)]) h).trans (j28_6_0 call md k x0 x1 x2 x3 x10 x11 x12 x13 h)
theorem r28_7 {β : Type} (call : CallF) (md : Bool) (n : Nat) (k : Ex → List AV → Heap → Option β) (x0 x1 x2 x3 x10 x12 x13 x54 : AV) (h : Heap) :
    runK C0 call md 28 n (.region 7 (O28 7) false) k (st 102 [(0, x0), (1, x1), (2, x2), (3, x3), (10, x10), (12, x12), (13, x13), (54, x54)]) h =
    k .normal (st 102 [(0, x0), (1, x1), (2, x2), (3, x3), (10, x10), (12, x12), (13, x13), (14, .nils)]) h
  := by kernel_rfl
theorem r28_8 {β : Type} (call : CallF) (md : Bool) (n : Nat) (k : Ex → List AV → Heap → Option β) (x0 x1 x2 x3 x10 x12 x13 x14 : AV) (h : Heap) :
    runK C0 call md 28 n (.region 8 (O28 8) false) k (st 102 [(0, x0), (1, x1), (2, x2), (3, x3), (10, x10), (12, x12), (13, x13), (14, x14)]) h =
    k .normal (st 102 [(0, x0), (1, x1), (2, x2), (3, x3), (10, x10), (12, x12), (13, x13), (14, x14), (15, (.int .i64 1))]) h
  := by kernel_rfl
theorem r28_9 {β : Type} (call : CallF) (md : Bool) (n : Nat) (k : Ex → List AV → Heap → Option β) (x0 x1 x2 x3 x10 x12 x13 x14 x15 : AV) (h : Heap) :
    runK C0 call md 28 n (.region 9 (O28 9) false) k (st 102 [(0, x0), (1, x1), (2, x2), (3, x3), (10, x10), (12, x12), (13, x13), (14, x14), (15, x15)]) h =
    bnd (aBinC tab .lss 3 x15 x13 false) fun v1 =>
    k .normal (st 102 [(0, x0), (1, x1), (2, x2), (3, x3), (10, x10), (12, x12), (13, x13), (14, x14), (15, x15), (57, v1)]) h
  := by kernel_rfl
theorem r28_10 {β : Type} (call : CallF) (md : Bool) (n : Nat) (k : Ex → List AV → Heap → Option β) (x0 x1 x2 x3 x10 x12 x13 x14 x15 : AV) (h : Heap) :
    runK C0 call md 28 n (.region 10 (O28 10) false) k (st 102 [(0, x0), (1, x1), (2, x2), (3, x3), (10, x10), (12, x12), (13, x13), (14, x14), (15, x15)]) h =
    bnd (aBinC tab .add 3 x15 (.int .i64 1) true) fun v1 =>
    k .normal (st 102 [(0, x0), (1, x1), (2, x2), (3, x3), (10, x10), (12, x12), (13, x13), (14, x14), (15, v1)]) h
  := by kernel_rfl
theorem r28_11 {β : Type} (call : CallF) (md : Bool) (n : Nat) (k : Ex → List AV → Heap → Option β) (x0 x1 x2 x3 x10 x12 x13 x14 x15 x57 : AV) (h : Heap) :
    runK C0 call md 28 n (.region 11 (O28 11) false) k (st 102 [(0, x0), (1, x1), (2, x2), (3, x3), (10, x10), (12, x12), (13, x13), (14, x14), (15, x15), (57, x57)]) h =
    bnd (aBinC tab .add 3 x1 x15 false) fun v1 =>
    bnd2 (aCall call md (.fn (.func 57) []) [x0, v1] h) fun v2 h3 =>
    bnd2 (aApp tab 22 22 md x14 v2 h3) fun v4 h5 =>
    k .normal (st 102 [(0, x0), (1, x1), (2, x2), (3, x3), (10, x10), (12, x12), (13, x13), (14, v4), (15, x15)]) h5
  := by kernel_rfl
theorem r28_12 {β : Type} (call : CallF) (md : Bool) (n : Nat) (k : Ex → List AV → Heap → Option β) (x0 x1 x2 x3 x10 x12 x13 x14 x15 x57 : AV) (h : Heap) :
    runK C0 call md 28 n (.region 12 (O28 12) false) k (st 102 [(0, x0), (1, x1), (2, x2), (3, x3), (10, x10), (12, x12), (13, x13), (14, x14), (15, x15), (57, x57)]) h =
    bnd (aSlice tab 22 x14 none (some x12) none) fun v1 =>
    k .normal (st 102 [(0, x0), (1, x1), (2, x2), (3, x3), (10, x10), (13, x13), (14, v1)]) h
  := by kernel_rfl
theorem r28_13 {β : Type} (call : CallF) (md : Bool) (n : Nat) (k : Ex → List AV → Heap → Option β) (x0 x1 x2 x3 x10 x13 x14 : AV) (h : Heap) :
    runK C0 call md 28 n (.region 13 (O28 13) false) k (st 102 [(0, x0), (1, x1), (2, x2), (3, x3), (10, x10), (13, x13), (14, x14)]) h =
    bnd2 (aCall call md (.fn (.func 32) []) [x3, x14] h) fun v1 h2 =>
    k .normal (st 102 [(0, x0), (1, x1), (2, x2), (3, x3), (10, x10), (13, x13), (14, x14), (16, v1)]) h2
  := by kernel_rfl
theorem r28_14 {β : Type} (call : CallF) (md : Bool) (n : Nat) (k : Ex → List AV → Heap → Option β) (x0 x1 x2 x3 x10 x13 x14 x16 : AV) (h : Heap) :
    runK C0 call md 28 n (.region 14 (O28 14) false) k (st 102 [(0, x0), (1, x1), (2, x2), (3, x3), (10, x10), (13, x13), (14, x14), (16, x16)]) h =
    k .normal (st 102 [(0, x0), (1, x1), (2, x2), (3, x3), (10, x10), (13, x13), (14, x14), (16, x16), (17, (.bool true))]) h
  := by kernel_rfl
theorem r28_15 {β : Type} (call : CallF) (md : Bool) (n : Nat) (k : Ex → List AV → Heap → Option β) (x0 x1 x2 x3 x10 x13 x14 x16 x17 : AV) (h : Heap) :
    runK C0 call md 28 n (.region 15 (O28 15) false) k (st 102 [(0, x0), (1, x1), (2, x2), (3, x3), (10, x10), (13, x13), (14, x14), (16, x16), (17, x17)]) h =
    k .normal (st 102 [(0, x0), (1, x1), (2, x2), (3, x3), (10, x10), (13, x13), (14, x14), (16, x16), (17, x17), (18, (.int .i64 0))]) h
  := by kernel_rfl
theorem r28_16 {β : Type} (call : CallF) (md : Bool) (n : Nat) (k : Ex → List AV → Heap → Option β) (x0 x1 x2 x3 x10 x13 x14 x16 x17 x18 : AV) (h : Heap) :
    runK C0 call md 28 n (.region 16 (O28 16) false) k (st 102 [(0, x0), (1, x1), (2, x2), (3, x3), (10, x10), (13, x13), (14, x14), (16, x16), (17, x17), (18, x18)]) h =
    bnd (aBinC tab .lss 3 x18 x13 false) fun v1 =>
    k .normal (st 102 [(0, x0), (1, x1), (2, x2), (3, x3), (10, x10), (13, x13), (14, x14), (16, x16), (17, x17), (18, x18), (75, v1)]) h
  := by kernel_rfl
theorem r28_17 {β : Type} (call : CallF) (md : Bool) (n : Nat) (k : Ex → List AV → Heap → Option β) (x0 x1 x2 x3 x10 x13 x14 x16 x17 x18 : AV) (h : Heap) :
    runK C0 call md 28 n (.region 17 (O28 17) false) k (st 102 [(0, x0), (1, x1), (2, x2), (3, x3), (10, x10), (13, x13), (14, x14), (16, x16), (17, x17), (18, x18)]) h =
    bnd (aBinC tab .add 3 x18 (.int .i64 1) true) fun v1 =>
    k .normal (st 102 [(0, x0), (1, x1), (2, x2), (3, x3), (10, x10), (13, x13), (14, x14), (16, x16), (17, x17), (18, v1)]) h
  := by kernel_rfl
def J28_18_1 {β : Type} (call : CallF) (md : Bool) (k : Ex → List AV → Heap → Option β) (x0 x1 x2 x3 x10 x13 x14 x16 x18 x79 : AV) (h : Heap) : Option β :=
    onG true x79 (
      bnd (aIndexAddr tab 30 x16 x18) fun v1 =>
      bnd (aLoad tab 22 v1 h) fun v2 =>
      bnd (aBinC tab .add 3 x1 x18 false) fun v3 =>
      bnd2 (aCall call md (.fn (.func 57) []) [x0, v3] h) fun v4 h5 =>
      bnd2 (aCall call md (.fn (.func 22) []) [v2, v4] h5) fun v6 h7 =>
      bnd (aPick x79 v6 (.bool false)) fun v8 =>
      onT (rdSame (aLoad tab 22 v1 h5) v2) <|
      k .normal (st 102 [(0, x0), (1, x1), (2, x2), (3, x3), (10, x10), (13, x13), (14, x14), (16, x16), (17, v8), (18, x18)]) h7) (
      bnd (aPick x79 .skip (.bool false)) fun v9 =>
      k .normal (st 102 [(0, x0), (1, x1), (2, x2), (3, x3), (10, x10), (13, x13), (14, x14), (16, x16), (17, v9), (18, x18)]) h)

theorem j28_18_1 {β : Type} (call : CallF) (md : Bool) (k : Ex → List AV → Heap → Option β) (x0 x1 x2 x3 x10 x13 x14 x16 x17 x18 x75 x78 x79 : AV) (h : Heap) :
    trcK C0 call md 28 (O28 18) ((O28 18).toList.drop 2) (st 102 [(0, x0), (1, x1), (2, x2), (3, x3), (10, x10), (13, x13), (14, x14), (16, x16), (17, x17), (18, x18), (75, x75), (78, x78), (79, x79)]) h [((st 102 [(0, x0), (1, x1), (2, x2), (3, x3), (10, x10), (13, x13), (14, x14), (16, x16), (17, x17), (18, x18), (75, x75)]), h, x78), ((st 102 [(0, x0), (1, x1), (2, x2), (3, x3), (10, x10), (13, x13), (14, x14), (16, x16), (17, x17), (18, x18), (75, x75), (78, x78)]), h, x79)] (fun tr tm h => chkK C0 (O28 18) (O28 18).toList tr h [(5, 10)] (k .normal (clr (C0.keep 28 18) tm) h)) = J28_18_1 call md k x0 x1 x2 x3 x10 x13 x14 x16 x18 x79 h :=
  by cases x79 with | bool b => (cases b <;> kernel_rfl) | _ => kernel_rfl
theorem g28_18_0 {β : Type} (call : CallF) (md : Bool) (kk : List (List AV × Heap × AV) → List AV → Heap → Option β) (x0 x1 x2 x3 x10 x13 x14 x16 x17 x18 x75 : AV) (h : Heap) :
    trcK C0 call md 28 (O28 18) ((O28 18).toList.take 2) (st 102 [(0, x0), (1, x1), (2, x2), (3, x3), (10, x10), (13, x13), (14, x14), (16, x16), (17, x17), (18, x18), (75, x75)]) h [] kk =
    kk [((st 102 [(0, x0), (1, x1), (2, x2), (3, x3), (10, x10), (13, x13), (14, x14), (16, x16), (17, x17), (18, x18), (75, x75)]), h, x17), ((st 102 [(0, x0), (1, x1), (2, x2), (3, x3), (10, x10), (13, x13), (14, x14), (16, x16), (17, x17), (18, x18), (75, x75), (78, x17)]), h, x17)] (st 102 [(0, x0), (1, x1), (2, x2), (3, x3), (10, x10), (13, x13), (14, x14), (16, x16), (17, x17), (18, x18), (75, x75), (78, x17), (79, x17)]) h
  := by kernel_rfl
theorem r28_18 {β : Type} (call : CallF) (md : Bool) (n : Nat) (k : Ex → List AV → Heap → Option β) (x0 x1 x2 x3 x10 x13 x14 x16 x17 x18 x75 : AV) (h : Heap) :
    runK C0 call md 28 n (.region 18 (O28 18) true) k (st 102 [(0, x0), (1, x1), (2, x2), (3, x3), (10, x10), (13, x13), (14, x14), (16, x16), (17, x17), (18, x18), (75, x75)]) h =
    J28_18_1 call md k x0 x1 x2 x3 x10 x13 x14 x16 x18 x17 h
  := by
  have e1 := runK_draw C0 call md 28 n 18 (O28 18) k (st 102 [(0, x0), (1, x1), (2, x2), (3, x3), (10, x10), (13, x13), (14, x14), (16, x16), (17, x17), (18, x18), (75, x75)]) h
  have e := regK_pairs (β := β) C0 call md 28 (ops := (O28 18)) (ps := [(5, 10)]) (by kernel_rfl) (by kernel_rfl) (st 102 [(0, x0), (1, x1), (2, x2), (3, x3), (10, x10), (13, x13), (14, x14), (16, x16), (17, x17), (18, x18), (75, x75)]) h (fun tm h => k .normal (clr (C0.keep 28 18) tm) h)
  refine e1.trans (e.trans ?_)
  have e2 : (O28 18).toList = (O28 18).toList.take 2 ++ (O28 18).toList.drop 2 := by kernel_rfl
  rw [show trcK C0 call md 28 (O28 18) (O28 18).toList = trcK C0 call md 28 (O28 18) ((O28 18).toList.take 2 ++ (O28 18).toList.drop 2) from congrArg _ e2, trcK_append, g28_18_0]
  simp only [j28_18_1]
theorem r28_19 {β : Type} (call : CallF) (md : Bool) (n : Nat) (k : Ex → List AV → Heap → Option β) (x0 x1 x2 x3 x10 x13 x14 x16 x17 x18 x75 : AV) (h : Heap) :
    runK C0 call md 28 n (.region 19 (O28 19) false) k (st 102 [(0, x0), (1, x1), (2, x2), (3, x3), (10, x10), (13, x13), (14, x14), (16, x16), (17, x17), (18, x18), (75, x75)]) h =
    bnd (aUn .not x17) fun v1 =>
    k .normal (st 102 [(0, x0), (1, x1), (2, x2), (3, x3), (10, x10), (13, x13), (14, x14), (92, v1)]) h
  := by kernel_rfl
theorem r28_20 {β : Type} (call : CallF) (md : Bool) (n : Nat) (k : Ex → List AV → Heap → Option β) (x0 x1 x2 x3 x10 x13 x14 x92 : AV) (h : Heap) :
    runK C0 call md 28 n (.region 20 (O28 20) false) k (st 102 [(0, x0), (1, x1), (2, x2), (3, x3), (10, x10), (13, x13), (14, x14), (92, x92)]) h =
    bnd (aLit tab 30 1 [(0, x14)]) fun v1 =>
    bnd2 (aApp tab 30 30 md x10 v1 h) fun v2 h3 =>
    k .normal (st 102 [(0, x0), (1, x1), (2, x2), (3, x3), (10, v2), (13, x13)]) h3
  := by kernel_rfl
theorem r28_21 {β : Type} (call : CallF) (md : Bool) (n : Nat) (k : Ex → List AV → Heap → Option β) (x0 x1 x2 x3 x10 x13 : AV) (h : Heap) :
    runK C0 call md 28 n (.region 21 (O28 21) false) k (st 102 [(0, x0), (1, x1), (2, x2), (3, x3), (10, x10), (13, x13)]) h =
    bnd (aBinC tab .add 3 x1 x13 false) fun v1 =>
    k .normal (st 102 [(0, x0), (1, v1), (2, x2), (3, x3), (10, x10)]) h
  := by kernel_rfl
theorem r28_22a {β : Type} (call : CallF) (md : Bool) (n : Nat) (k : Ex → List AV → Heap → Option β) (x0 x1 x2 x3 x10 x12 x13 x54 : AV) (h : Heap) :
    runK C0 call md 28 n (.region 22 (O28 22) false) k (st 102 [(0, x0), (1, x1), (2, x2), (3, x3), (10, x10), (12, x12), (13, x13), (54, x54)]) h =
    k .normal (st 102 [(8, x10), (9, x1)]) h
  := by kernel_rfl
theorem r28_22b {β : Type} (call : CallF) (md : Bool) (n : Nat) (k : Ex → List AV → Heap → Option β) (x0 x1 x2 x3 x10 x13 x14 x92 : AV) (h : Heap) :
    runK C0 call md 28 n (.region 22 (O28 22) false) k (st 102 [(0, x0), (1, x1), (2, x2), (3, x3), (10, x10), (13, x13), (14, x14), (92, x92)]) h =
    k .normal (st 102 [(8, x10), (9, x1)]) h
  := by kernel_rfl
theorem r28_22c {β : Type} (call : CallF) (md : Bool) (n : Nat) (k : Ex → List AV → Heap → Option β) (x0 x1 x2 x3 x10 x27 : AV) (h : Heap) :
    runK C0 call md 28 n (.region 22 (O28 22) false) k (st 102 [(0, x0), (1, x1), (2, x2), (3, x3), (10, x10), (27, x27)]) h =
    k .normal (st 102 [(8, x10), (9, x1)]) h
  := by kernel_rfl
end Go.Ax

/- The reference's Scan: the entries of a generation. -/
namespace Go.Ax
open Go Go.Proofs

/-- The sectors from a on are those of the entry b. -/
def isEntry (now : List (List UInt8)) (a : Nat) (gen : Int) (b : List UInt8) : Prop := ∀ i, i < nOf b → (entryOf gen b)[i]? = now[a + i]?

theorem entryOf_length (gen : Int) (b : List UInt8) : (entryOf gen b).length = nOf b := by
  have := nOf_eq' b
  simp [entryOf]; omega
theorem entryOf_head (gen : Int) (b : List UInt8) : (entryOf gen b)[0]? = some (pad (head16 (BitVec.ofInt 32 gen) b)) := rfl
theorem entryOf_get (gen : Int) (b : List UInt8) (j : Nat) (h1 : 1 ≤ j) (h2 : j < nOf b) : (entryOf gen b)[j]? = some (pad (chunk b j)) := by
  obtain ⟨j, rfl⟩ : ∃ i, j = i + 1 := ⟨j - 1, by omega⟩
  unfold entryOf
  rw [List.getElem?_cons_succ, List.getElem?_map, List.getElem?_range' (by omega)]
  simp [Nat.add_comm]

theorem pad_head_iff {c x : List UInt8} (hc : c.length = 64) (hx : x.length = 16) : pad x = c ↔ x = c.take 16 ∧ (c.drop 16).all (· == 0) = true := by
  constructor
  · rintro rfl
    have h1 : (pad x).take x.length = x := pad_take
    have h2 : (pad x).drop x.length = _ := pad_drop
    rw [hx] at h1 h2
    rw [h1, h2]
    exact ⟨rfl, all_zero _⟩
  · rintro ⟨h1, h2⟩
    have e : c.drop 16 = List.replicate 48 0 := by
      refine List.eq_replicate_iff.2 ⟨by simp [hc], fun b hb => ?_⟩
      simpa using List.all_eq_true.1 h2 b hb
    unfold pad
    rw [hx, ← e, h1, List.take_append_drop]

theorem bodyAt_get (now : List (List UInt8)) (hc : ∀ b ∈ now, b.length = 64) (a n : Nat) (hn : a + 1 + n ≤ now.length) (j : Nat) (hj : j < n) : now[a + 1 + j]? = some (((bodyAt now a n).drop (64 * j)).take 64) := by
  induction n with
  | zero => omega
  | succ n ih =>
    have hlt : a + 1 + n < now.length := by omega
    have hl := bodyAt_length now hc a n (by omega)
    rw [bodyAt_succ now a n now[a + 1 + n] (List.getElem?_eq_getElem hlt)]
    by_cases h : j < n
    · rw [ih (by omega) h, List.drop_append_of_le_length (by omega), List.take_append_of_le_length (by simp; omega)]
    · obtain rfl : j = n := by omega
      have h64 : now[a + 1 + j].length = 64 := hc _ (List.getElem_mem hlt)
      rw [← hl, List.drop_left, ← h64, List.take_length]
      exact List.getElem?_eq_getElem hlt

theorem chunks_iff {now : List (List UInt8)} (hc : ∀ b ∈ now, b.length = 64) (a n size : Nat) (hn : a + 1 + n ≤ now.length) (hs : size ≤ 64 * n) (hs2 : 64 * n < size + 64) :
    (∀ j, 1 ≤ j → j ≤ n → now[a + j]? = some (pad (chunk ((bodyAt now a n).take size) j))) ↔ ((bodyAt now a n).drop size).all (· == 0) = true := by
  have hl := bodyAt_length now hc a n hn
  have hg := bodyAt_get now hc a n hn
  have hbt : ((bodyAt now a n).take size).length = size := by simp; omega
  constructor
  · intro h
    have := body_chunks now a ((bodyAt now a n).take size) n (by omega) h
    rw [this, hbt, List.take_of_length_le (by omega)]
    rw [List.drop_append_of_le_length (by omega), List.drop_of_length_le (by omega), List.nil_append]
    exact all_zero _
  · intro h j h1 h2
    have e : (bodyAt now a n).drop size = List.replicate (64 * n - size) 0 := by
      refine List.eq_replicate_iff.2 ⟨by simp [hl], fun b hb => ?_⟩
      simpa using List.all_eq_true.1 h b hb
    have e2 := List.take_append_drop size (bodyAt now a n)
    rw [e] at e2
    generalize (bodyAt now a n).take size = b at *
    have := hg (j - 1) (by omega)
    rw [show a + 1 + (j - 1) = a + j by omega] at this
    rw [this, ← e2]
    congr 1
    unfold pad chunk
    rw [List.drop_append_of_le_length (by omega), List.take_append, List.length_take, List.length_drop, List.take_replicate]
    congr 2
    omega

/-- The reference's test is the program's. -/
theorem one_ref {now : List (List UInt8)} (hc : ∀ b ∈ now, b.length = 64) {a nn : Nat} {e gen : Int} (hg0 : 0 ≤ gen) (hg1 : gen < 2 ^ 31) {c : List UInt8} (hca : now[a]? = some c) (he : (a : Int) < e) :
    (((get4 c).toNat : Int) ≠ gen ∨ 8192 < (get4 (c.drop 4)).toNat ∨ min e now.length - a < sizeOf (get4 (c.drop 4)).toNat → oneOf now a e gen = none) ∧
    (¬ (((get4 c).toNat : Int) ≠ gen ∨ 8192 < (get4 (c.drop 4)).toNat ∨ min e now.length - a < sizeOf (get4 (c.drop 4)).toNat) → sizeOf (get4 (c.drop 4)).toNat = nn →
      (¬ isEntry now a gen ((bodyAt now a (nn - 1)).take (get4 (c.drop 4)).toNat) → oneOf now a e gen = none) ∧
      (isEntry now a gen ((bodyAt now a (nn - 1)).take (get4 (c.drop 4)).toNat) → oneOf now a e gen = some ((bodyAt now a (nn - 1)).take (get4 (c.drop 4)).toNat))) := by
  have hlt := (List.getElem?_eq_some_iff.1 hca).1
  have hcl := hc c (List.mem_of_getElem? hca)
  have g1 : ((get4 c).toNat : Int) = gen ↔ get4 c = BitVec.ofInt 32 gen := by
    have e1 := toNat_ofInt32 gen
    constructor
    · intro h
      apply BitVec.eq_of_toNat_eq
      omega
    · intro h; rw [h]; omega
  have g3 : ∀ b, pad (head16 (BitVec.ofInt 32 gen) b) = c → crc (c.take 12) = get4 (c.drop 12) := by
    intro b h
    subst h
    have hp : pad (head16 (BitVec.ofInt 32 gen) b) = be4 (BitVec.ofInt 32 gen) ++ (be4 (BitVec.ofNat 32 b.length) ++ (be4 (crc b) ++ (be4 (crc (head12 (BitVec.ofInt 32 gen) b)) ++ List.replicate 48 0))) := by
      unfold pad; rw [head16_length]; simp [head16, head12]
    rw [hp, show ∀ (u v w : BitVec 32) r, (be4 u ++ (be4 v ++ (be4 w ++ r))).drop 12 = r from fun _ _ _ _ => rfl, get4_be4]
    rfl
  constructor
  · intro h
    by_cases q : e ≤ a ∨ get4 c ≠ BitVec.ofInt 32 gen ∨ crc (c.take 12) ≠ get4 (c.drop 12)
    · exact oneOf_head hca q
    · rcases h with h | h | h
      · exact absurd (.inr (.inl fun x => h (g1.2 x))) q
      · exact oneOf_size hca q (.inl h)
      · exact oneOf_size hca q (.inr h)
  · intro h hnn
    have h1 : get4 c = BitVec.ofInt 32 gen := g1.1 (by omega)
    have h2 : ¬ (8192 < (get4 (c.drop 4)).toNat ∨ min e now.length - a < sizeOf (get4 (c.drop 4)).toNat) := fun x => h (.inr x)
    generalize hsz : (get4 (c.drop 4)).toNat = size at *
    have hsz2 : (nn : Int) = 1 + ((size : Int) + 63) / 64 := by rw [← hnn]; unfold sizeOf; omega
    have hbl := bodyAt_length now hc a (nn - 1) (by omega)
    have hbt : ((bodyAt now a (nn - 1)).take size).length = size := by simp; omega
    have hnb := nOf_eq' ((bodyAt now a (nn - 1)).take size)
    rw [hbt] at hnb
    have hci := chunks_iff hc a (nn - 1) size (by omega) (by omega) (by omega)
    have iff : isEntry now a gen ((bodyAt now a (nn - 1)).take size) ↔ head16 (BitVec.ofInt 32 gen) ((bodyAt now a (nn - 1)).take size) = c.take 16 ∧ (c.drop 16).all (· == 0) = true ∧ ((bodyAt now a (nn - 1)).drop size).all (· == 0) = true := by
      rw [← and_assoc, ← pad_head_iff hcl (head16_length _ _), ← hci]
      constructor
      · intro hi
        refine ⟨?_, fun j j1 j2 => ?_⟩
        · have := hi 0 (by omega)
          rw [entryOf_head, Nat.add_zero, hca] at this
          exact Option.some.inj this
        · rw [← hi j (by omega)]
          exact entryOf_get _ _ _ j1 (by omega)
      · rintro ⟨p1, p2⟩ i hi
        by_cases h0 : i = 0
        · subst h0; rw [entryOf_head, Nat.add_zero, hca, p1]
        · rw [entryOf_get _ _ _ (by omega) hi, p2 i (by omega) (by omega)]
    have hcrc : isEntry now a gen ((bodyAt now a (nn - 1)).take size) → crc (c.take 12) = get4 (c.drop 12) := by
      intro hi
      refine g3 ((bodyAt now a (nn - 1)).take size) ?_
      have := hi 0 (by omega)
      rw [entryOf_head, Nat.add_zero, hca] at this
      exact Option.some.inj this
    by_cases hq : crc (c.take 12) = get4 (c.drop 12)
    · have hh : ¬ (e ≤ a ∨ get4 c ≠ BitVec.ofInt 32 gen ∨ crc (c.take 12) ≠ get4 (c.drop 12)) := by
        rintro (x | x | x)
        · omega
        · exact x h1
        · exact x hq
      have hgo := oneOf_go (nn := nn) hca hh (by rw [hsz]; exact h2) (by rw [hsz]; exact hnn)
      rw [hsz] at hgo
      constructor
      · intro hn
        rw [hgo, if_neg (fun x => hn (iff.2 x))]
      · intro hi
        rw [hgo, if_pos (iff.1 hi)]
    · refine ⟨fun _ => oneOf_head hca (.inr (.inr hq)), fun hi => absurd (hcrc hi) hq⟩

theorem rbody_loop {S U : Obs} {p r : Nat} {d : Dk} (hl : d.loose.length < 2 ^ 30) (dis : ∀ i, S i → ¬ U i) (a nn : Nat) (ha : a + nn ≤ d.lasts.length) (x2 x3 x10 x12 : AV) (N : Nat) (hN : d.loose.length < N) :
    ∀ (m i n : Nat) (acc : AV) (h : Heap), i + 1 + m = nn → m < n → Up U h → Rsk S h p r d → ApB U h acc (bodyAt d.now a i) →
    ∃ acc' h', (∀ K : Ex → List AV → Heap → Option (AV × Heap), loopK (fun next => runK C0 (exFn C0 E0 (N + 1)) false 28 (N + 1) B28_1 (seqE next K)) n (st 102 [(0, rp p), (1, .int .i64 a), (2, x2), (3, x3), (10, x10), (12, x12), (13, .int .i64 nn), (14, acc), (15, .int .i64 ((i + 1 : Nat) : Int))]) h =
      K (.exit 2) (st 102 [(0, rp p), (1, .int .i64 a), (2, x2), (3, x3), (10, x10), (12, x12), (13, .int .i64 nn), (14, acc'), (15, .int .i64 nn), (57, .bool false)]) h') ∧
      ApB U h' acc' (bodyAt d.now a (nn - 1)) ∧ Keep U h h' := by
  intro m
  induction m with
  | zero =>
    intro i n acc h hi hn up D hacc
    obtain ⟨n, rfl⟩ : ∃ j, n = j + 1 := ⟨n - 1, by omega⟩
    obtain rfl : nn = i + 1 := by omega
    refine ⟨acc, h, fun K => ?_, by simpa using hacc, Keep.refl _ _⟩
    rw [loopK_succ]
    generalize loopK (_ : (List AV → Heap → Option (AV × Heap)) → List AV → Heap → Option (AV × Heap)) n = Lp
    have e : decide (((i + 1 : Nat) : Int) < ((i + 1 : Nat) : Int)) = false := decide_eq_false (by omega)
    simp -implicitDefEqProofs only [B28_1, ↓runK_seq, runK_seq, ↓runK_cond, runK_cond, ↓runK_block, runK_block, ↓runK_loop, runK_loop, ↓runK_skip, runK_skip, ↓runK_ret, runK_ret, ↓runK_exit, runK_exit, ↓seqE_n, seqE_n, ↓seqE_e, seqE_e, ↓seqE_r, seqE_r, ↓blkE_n, blkE_n, ↓blkE_e, blkE_e, ↓blkE_r, blkE_r, ↓retK_n, retK_n, ↓retK_r, retK_r, ↓aCall_fn, aCall_fn, ↓bnd_s, bnd_s, ↓bnd2_s, bnd2_s, ↓onB_t, onB_t, ↓onB_f, onB_f, ↓onG_tt, onG_tt, ↓onG_tf, onG_tf, ↓onG_ft, onG_ft, ↓onG_ff, onG_ff, ↓onG_s, onG_s, ↓onT_t, onT_t, ↓aPick_t, aPick_t, ↓aPick_f, aPick_f, decide_true, decide_false, st_tmp, results1, results2, List.lookup_cons, List.lookup_nil, Nat.reduceBEq, Bool.false_eq_true, ↓reduceIte, BEq.rfl, Nat.reduceLT, Option.getD_some, Option.getD_none, ↓r28_0, r28_0, ↓r28_1, r28_1, ↓r28_2, r28_2, J28_2_0, J28_2_1, J28_2_2, ↓r28_3, r28_3, ↓r28_4, r28_4, ↓r28_5, r28_5, ↓r28_6, r28_6, J28_6_0, J28_6_1, J28_6_2, J28_6_3, J28_6_4, ↓r28_7, r28_7, ↓r28_8, r28_8, ↓r28_9, r28_9, ↓r28_10, r28_10, ↓r28_11, r28_11, ↓r28_12, r28_12, ↓r28_13, r28_13, ↓r28_14, r28_14, ↓r28_15, r28_15, ↓r28_16, r28_16, ↓r28_17, r28_17, ↓r28_18, r28_18, J28_18_1, ↓r28_19, r28_19, ↓r28_20, r28_20, ↓r28_21, r28_21, ↓r28_22a, r28_22a, ↓r28_22b, r28_22b, ↓r28_22c, r28_22c, bin_lss, e]
  | succ m ih =>
    intro i n acc h hi hn up D hacc
    obtain ⟨n, rfl⟩ : ∃ j, n = j + 1 := ⟨n - 1, by omega⟩
    have hf := D.few
    have e : decide (((i + 1 : Nat) : Int) < (nn : Nat)) = true := decide_eq_true (by omega)
    have wa : IntKind.i64.wrap ((a : Int) + ((i + 1 : Nat) : Int)) = ((a + 1 + i : Nat) : Int) := by rw [wrap_i64] <;> omega
    have wr : IntKind.i64.wrap (((i + 1 : Nat) : Int) + 1) = ((i + 1 + 1 : Nat) : Int) := by rw [wrap_i64] <;> omega
    obtain ⟨y, r1, r2⟩ := rread_ok D hl ((a + 1 + i : Nat) : Int) false N hN
    have hnl : d.now.length = d.lasts.length := land_length _ _
    have hlt : a + 1 + i < d.now.length := by omega
    have hrd : d.rread ((a + 1 + i : Nat) : Int) = d.now[a + 1 + i] := by
      unfold Dk.rread
      rw [if_pos ⟨by omega, by omega⟩, Int.toNat_natCast, List.getElem?_eq_getElem hlt]
      rfl
    rw [hrd] at r2
    have hnc : ∀ b ∈ d.now, b.length = 64 := land_cells _ _ D.cells fun w hw => (D.loose w hw).2
    have hlen := hnc _ (List.getElem_mem hlt)
    have hbs := bodyAt_succ d.now a i _ (List.getElem?_eq_getElem hlt)
    have hbl := bodyAt_length d.now hnc a i (by omega)
    generalize d.now[a + 1 + i] = c at *
    obtain ⟨acc', h2, ap, a2, k2, -⟩ := ApB.append (l := bodyAt d.now a i) hacc up (new := c) (by intro e; subst e; simp at hlen) (by omega)
    have by2 : By U h y c := .inl r2
    rw [← hbs] at a2
    obtain ⟨acc'', h3, g1, g2, g3⟩ := ih (i + 1) n acc' h2 (by omega) (by omega) (up.keep k2) (D.keep k2 fun j _ hj => dis j hj) a2
    refine ⟨acc'', h3, fun K => ?_, g2, k2.trans g3⟩
    rw [loopK_succ, ← g1 K]
    generalize loopK (_ : (List AV → Heap → Option (AV × Heap)) → List AV → Heap → Option (AV × Heap)) n = Lp
    simp -implicitDefEqProofs only [B28_1, ↓runK_seq, runK_seq, ↓runK_cond, runK_cond, ↓runK_block, runK_block, ↓runK_loop, runK_loop, ↓runK_skip, runK_skip, ↓runK_ret, runK_ret, ↓runK_exit, runK_exit, ↓seqE_n, seqE_n, ↓seqE_e, seqE_e, ↓seqE_r, seqE_r, ↓blkE_n, blkE_n, ↓blkE_e, blkE_e, ↓blkE_r, blkE_r, ↓retK_n, retK_n, ↓retK_r, retK_r, ↓aCall_fn, aCall_fn, ↓bnd_s, bnd_s, ↓bnd2_s, bnd2_s, ↓onB_t, onB_t, ↓onB_f, onB_f, ↓onG_tt, onG_tt, ↓onG_tf, onG_tf, ↓onG_ft, onG_ft, ↓onG_ff, onG_ff, ↓onG_s, onG_s, ↓onT_t, onT_t, ↓aPick_t, aPick_t, ↓aPick_f, aPick_f, decide_true, decide_false, st_tmp, results1, results2, List.lookup_cons, List.lookup_nil, Nat.reduceBEq, Bool.false_eq_true, ↓reduceIte, BEq.rfl, Nat.reduceLT, Option.getD_some, Option.getD_none, ↓r28_0, r28_0, ↓r28_1, r28_1, ↓r28_2, r28_2, J28_2_0, J28_2_1, J28_2_2, ↓r28_3, r28_3, ↓r28_4, r28_4, ↓r28_5, r28_5, ↓r28_6, r28_6, J28_6_0, J28_6_1, J28_6_2, J28_6_3, J28_6_4, ↓r28_7, r28_7, ↓r28_8, r28_8, ↓r28_9, r28_9, ↓r28_10, r28_10, ↓r28_11, r28_11, ↓r28_12, r28_12, ↓r28_13, r28_13, ↓r28_14, r28_14, ↓r28_15, r28_15, ↓r28_16, r28_16, ↓r28_17, r28_17, ↓r28_18, r28_18, J28_18_1, ↓r28_19, r28_19, ↓r28_20, r28_20, ↓r28_21, r28_21, ↓r28_22a, r28_22a, ↓r28_22b, r28_22b, ↓r28_22c, r28_22c, bin_lss, e, bin_add, wa, wr, r1, app22s by2.src, ap]

theorem rcmp_loop {S : Obs} {p r : Nat} {d : Dk} (hl : d.loose.length < 2 ^ 30) (a : Nat) {y : AV} {es : List (List UInt8)} (hy : Rw y es) (hes : ∀ b ∈ es, b.length = 64) (ha : a + es.length ≤ d.lasts.length) (x2 x3 x10 x14 : AV) (N : Nat) (hN : d.loose.length + 80 < N) (h : Heap) (D : Rsk S h p r d) :
    ∀ (m i n : Nat) (ok : Bool), i + m = es.length → m < n → (ok = true ↔ ∀ j, j < i → es[j]? = d.now[a + j]?) →
    ∃ ok', (∀ K : Ex → List AV → Heap → Option (AV × Heap), loopK (fun next => runK C0 (exFn C0 E0 (N + 1)) false 28 (N + 1) B28_2 (seqE next K)) n (st 102 [(0, rp p), (1, .int .i64 a), (2, x2), (3, x3), (10, x10), (13, .int .i64 es.length), (14, x14), (16, y), (17, .bool ok), (18, .int .i64 i)]) h =
      K (.exit 4) (st 102 [(0, rp p), (1, .int .i64 a), (2, x2), (3, x3), (10, x10), (13, .int .i64 es.length), (14, x14), (16, y), (17, .bool ok'), (18, .int .i64 es.length), (75, .bool false)]) h) ∧
      (ok' = true ↔ ∀ j, j < es.length → es[j]? = d.now[a + j]?) := by
  intro m
  induction m with
  | zero =>
    intro i n ok hi hn hok
    obtain ⟨n, rfl⟩ : ∃ j, n = j + 1 := ⟨n - 1, by omega⟩
    obtain rfl : i = es.length := by omega
    refine ⟨ok, fun K => ?_, hok⟩
    rw [loopK_succ]
    generalize loopK (_ : (List AV → Heap → Option (AV × Heap)) → List AV → Heap → Option (AV × Heap)) n = Lp
    have e : decide (((es.length : Nat) : Int) < (es.length : Nat)) = false := decide_eq_false (by omega)
    simp -implicitDefEqProofs only [B28_2, ↓runK_seq, runK_seq, ↓runK_cond, runK_cond, ↓runK_block, runK_block, ↓runK_loop, runK_loop, ↓runK_skip, runK_skip, ↓runK_ret, runK_ret, ↓runK_exit, runK_exit, ↓seqE_n, seqE_n, ↓seqE_e, seqE_e, ↓seqE_r, seqE_r, ↓blkE_n, blkE_n, ↓blkE_e, blkE_e, ↓blkE_r, blkE_r, ↓retK_n, retK_n, ↓retK_r, retK_r, ↓aCall_fn, aCall_fn, ↓bnd_s, bnd_s, ↓bnd2_s, bnd2_s, ↓onB_t, onB_t, ↓onB_f, onB_f, ↓onG_tt, onG_tt, ↓onG_tf, onG_tf, ↓onG_ft, onG_ft, ↓onG_ff, onG_ff, ↓onG_s, onG_s, ↓onT_t, onT_t, ↓aPick_t, aPick_t, ↓aPick_f, aPick_f, decide_true, decide_false, st_tmp, results1, results2, List.lookup_cons, List.lookup_nil, Nat.reduceBEq, Bool.false_eq_true, ↓reduceIte, BEq.rfl, Nat.reduceLT, Option.getD_some, Option.getD_none, ↓r28_0, r28_0, ↓r28_1, r28_1, ↓r28_2, r28_2, J28_2_0, J28_2_1, J28_2_2, ↓r28_3, r28_3, ↓r28_4, r28_4, ↓r28_5, r28_5, ↓r28_6, r28_6, J28_6_0, J28_6_1, J28_6_2, J28_6_3, J28_6_4, ↓r28_7, r28_7, ↓r28_8, r28_8, ↓r28_9, r28_9, ↓r28_10, r28_10, ↓r28_11, r28_11, ↓r28_12, r28_12, ↓r28_13, r28_13, ↓r28_14, r28_14, ↓r28_15, r28_15, ↓r28_16, r28_16, ↓r28_17, r28_17, ↓r28_18, r28_18, J28_18_1, ↓r28_19, r28_19, ↓r28_20, r28_20, ↓r28_21, r28_21, ↓r28_22a, r28_22a, ↓r28_22b, r28_22b, ↓r28_22c, r28_22c, bin_lss, e]
  | succ m ih =>
    intro i n ok hi hn hok
    obtain ⟨n, rfl⟩ : ∃ j, n = j + 1 := ⟨n - 1, by omega⟩
    have hf := D.few
    have e : decide (((i : Nat) : Int) < (es.length : Nat)) = true := decide_eq_true (by omega)
    have wa : IntKind.i64.wrap ((a : Int) + (i : Int)) = ((a + i : Nat) : Int) := by rw [wrap_i64] <;> omega
    have wr : IntKind.i64.wrap ((i : Int) + 1) = ((i + 1 : Nat) : Int) := by rw [wrap_i64] <;> omega
    have hnl : d.now.length = d.lasts.length := land_length _ _
    have hlt : a + i < d.now.length := by omega
    have hie : i < es.length := by omega
    have hei := List.getElem?_eq_getElem hie
    cases ok
    case false =>
      obtain ⟨ok', g1, g2⟩ := ih (i + 1) n false (by omega) (by omega) ⟨fun h => (Bool.false_ne_true h).elim, fun h => hok.2 fun j hj => h j (by omega)⟩
      refine ⟨ok', fun K => ?_, g2⟩
      rw [loopK_succ, ← g1 K]
      generalize loopK (_ : (List AV → Heap → Option (AV × Heap)) → List AV → Heap → Option (AV × Heap)) n = Lp
      simp -implicitDefEqProofs only [B28_2, ↓runK_seq, runK_seq, ↓runK_cond, runK_cond, ↓runK_block, runK_block, ↓runK_loop, runK_loop, ↓runK_skip, runK_skip, ↓runK_ret, runK_ret, ↓runK_exit, runK_exit, ↓seqE_n, seqE_n, ↓seqE_e, seqE_e, ↓seqE_r, seqE_r, ↓blkE_n, blkE_n, ↓blkE_e, blkE_e, ↓blkE_r, blkE_r, ↓retK_n, retK_n, ↓retK_r, retK_r, ↓aCall_fn, aCall_fn, ↓bnd_s, bnd_s, ↓bnd2_s, bnd2_s, ↓onB_t, onB_t, ↓onB_f, onB_f, ↓onG_tt, onG_tt, ↓onG_tf, onG_tf, ↓onG_ft, onG_ft, ↓onG_ff, onG_ff, ↓onG_s, onG_s, ↓onT_t, onT_t, ↓aPick_t, aPick_t, ↓aPick_f, aPick_f, decide_true, decide_false, st_tmp, results1, results2, List.lookup_cons, List.lookup_nil, Nat.reduceBEq, Bool.false_eq_true, ↓reduceIte, BEq.rfl, Nat.reduceLT, Option.getD_some, Option.getD_none, ↓r28_0, r28_0, ↓r28_1, r28_1, ↓r28_2, r28_2, J28_2_0, J28_2_1, J28_2_2, ↓r28_3, r28_3, ↓r28_4, r28_4, ↓r28_5, r28_5, ↓r28_6, r28_6, J28_6_0, J28_6_1, J28_6_2, J28_6_3, J28_6_4, ↓r28_7, r28_7, ↓r28_8, r28_8, ↓r28_9, r28_9, ↓r28_10, r28_10, ↓r28_11, r28_11, ↓r28_12, r28_12, ↓r28_13, r28_13, ↓r28_14, r28_14, ↓r28_15, r28_15, ↓r28_16, r28_16, ↓r28_17, r28_17, ↓r28_18, r28_18, J28_18_1, ↓r28_19, r28_19, ↓r28_20, r28_20, ↓r28_21, r28_21, ↓r28_22a, r28_22a, ↓r28_22b, r28_22b, ↓r28_22c, r28_22c, bin_lss, e, bin_add, wr]
    case true =>
      obtain ⟨y1, r1, r2⟩ := rread_ok D hl ((a + i : Nat) : Int) false N (by omega)
      have hrd : d.rread ((a + i : Nat) : Int) = d.now[a + i] := by
        unfold Dk.rread
        rw [if_pos ⟨by omega, by omega⟩, Int.toNat_natCast, List.getElem?_eq_getElem hlt]
        rfl
      rw [hrd] at r2
      obtain ⟨v, hv, bv⟩ := hy.idx hei
      have h64 := hes _ (List.getElem_mem hie)
      have sm := same_ok bv r2 (by omega) false h (N + 1) (by omega)
      obtain ⟨ok', g1, g2⟩ := ih (i + 1) n (decide (es[i] = d.now[a + i])) (by omega) (by omega) (by
        rw [decide_eq_true_iff]
        constructor
        · intro he j hj
          by_cases hji : j = i
          · subst hji; rw [hei, List.getElem?_eq_getElem hlt, he]
          · exact hok.1 rfl j (by omega)
        · intro he
          have := he i (by omega)
          rw [hei, List.getElem?_eq_getElem hlt] at this
          exact Option.some.inj this)
      refine ⟨ok', fun K => ?_, g2⟩
      rw [loopK_succ, ← g1 K]
      generalize loopK (_ : (List AV → Heap → Option (AV × Heap)) → List AV → Heap → Option (AV × Heap)) n = Lp
      simp -implicitDefEqProofs only [B28_2, ↓runK_seq, runK_seq, ↓runK_cond, runK_cond, ↓runK_block, runK_block, ↓runK_loop, runK_loop, ↓runK_skip, runK_skip, ↓runK_ret, runK_ret, ↓runK_exit, runK_exit, ↓seqE_n, seqE_n, ↓seqE_e, seqE_e, ↓seqE_r, seqE_r, ↓blkE_n, blkE_n, ↓blkE_e, blkE_e, ↓blkE_r, blkE_r, ↓retK_n, retK_n, ↓retK_r, retK_r, ↓aCall_fn, aCall_fn, ↓bnd_s, bnd_s, ↓bnd2_s, bnd2_s, ↓onB_t, onB_t, ↓onB_f, onB_f, ↓onG_tt, onG_tt, ↓onG_tf, onG_tf, ↓onG_ft, onG_ft, ↓onG_ff, onG_ff, ↓onG_s, onG_s, ↓onT_t, onT_t, ↓aPick_t, aPick_t, ↓aPick_f, aPick_f, decide_true, decide_false, st_tmp, results1, results2, List.lookup_cons, List.lookup_nil, Nat.reduceBEq, Bool.false_eq_true, ↓reduceIte, BEq.rfl, Nat.reduceLT, Option.getD_some, Option.getD_none, ↓r28_0, r28_0, ↓r28_1, r28_1, ↓r28_2, r28_2, J28_2_0, J28_2_1, J28_2_2, ↓r28_3, r28_3, ↓r28_4, r28_4, ↓r28_5, r28_5, ↓r28_6, r28_6, J28_6_0, J28_6_1, J28_6_2, J28_6_3, J28_6_4, ↓r28_7, r28_7, ↓r28_8, r28_8, ↓r28_9, r28_9, ↓r28_10, r28_10, ↓r28_11, r28_11, ↓r28_12, r28_12, ↓r28_13, r28_13, ↓r28_14, r28_14, ↓r28_15, r28_15, ↓r28_16, r28_16, ↓r28_17, r28_17, ↓r28_18, r28_18, J28_18_1, ↓r28_19, r28_19, ↓r28_20, r28_20, ↓r28_21, r28_21, ↓r28_22a, r28_22a, ↓r28_22b, r28_22b, ↓r28_22c, r28_22c, bin_lss, e, hv, load22, bin_add, wa, r1, sm, rdSame_refl, wr]

theorem entryOf_cells (gen : Int) (b : List UInt8) : ∀ c ∈ entryOf gen b, c.length = 64 := by
  intro c hc
  simp only [entryOf, List.mem_cons, List.mem_map] at hc
  rcases hc with rfl | ⟨j, -, rfl⟩
  · exact pad_length _ (by rw [head16_length]; omega)
  · exact pad_length _ (chunk_length _ _)

theorem blkE_01 (k : Ex → List AV → Heap → Option (AV × Heap)) (tm : List AV) (h : Heap) : blkE 1 k (.exit 0) tm h = k (.exit 0) tm h := rfl

/-- What region 22 hands on, from whatever the loop has left. -/
def Ends28 (tm : List AV) (acc : AV) (pos : Int) : Prop := ∀ (call : CallF) (md : Bool) (n : Nat) (k : Ex → List AV → Heap → Option (AV × Heap)) (h : Heap), runK C0 call md 28 n (.region 22 (O28 22) false) k tm h = k .normal (st 102 [(8, acc), (9, .int .i64 pos)]) h

theorem rscan_loop {S U : Obs} {p r : Nat} {d : Dk} (hl : d.loose.length < 2 ^ 30) (dis : ∀ i, S i → ¬ U i) (e gen : Int) (hg0 : 0 ≤ gen) (hg1 : gen < 2 ^ 31) (N : Nat) (hN : d.loose.length + 9000 < N) :
    ∀ (f n : Nat) (a : Int) (acc : AV) (h : Heap) (ls : List (List UInt8)), (0 ≤ a → (d.lasts.length : Int) - a < f) → f ≤ n → 0 < f → Up U h → Rsk S h p r d → ApR U h acc ls → ls.length + (f : Int) < 2 ^ 39 →
    ∃ tm acc' h', (∀ K : Ex → List AV → Heap → Option (AV × Heap), loopK (fun next => runK C0 (exFn C0 E0 (N + 2)) false 28 (N + 2) B28_3 (seqE next K)) n (st 102 [(0, rp p), (1, .int .i64 a), (2, .int .i64 e), (3, .int .i64 gen), (10, acc)]) h =
      K (.exit 0) tm h') ∧ Ends28 tm acc' (scanOf d.now e gen f a).2 ∧
      ApR U h' acc' (ls ++ (scanOf d.now e gen f a).1) ∧ Keep U h h' := by
  intro f
  induction f with
  | zero => intro n a acc h ls _ _ h0; omega
  | succ f ih =>
    intro n a acc h ls hf hn _ up D hacc hll
    obtain ⟨n, rfl⟩ : ∃ j, n = j + 1 := ⟨n - 1, by omega⟩
    have hfew := D.few
    have hnl : d.now.length = d.lasts.length := land_length _ _
    have hnc : ∀ b ∈ d.now, b.length = 64 := land_cells _ _ D.cells fun w hw => (D.loose w hw).2
    have q56 := rend_ok D e false (N + 1)
    by_cases q0 : 0 ≤ a
    case neg =>
      have e0 : decide ((0 : Int) ≤ a) = false := decide_eq_false q0
      rw [scanOf_none (oneOf_out (by omega))]
      refine ⟨st 102 [(0, rp p), (1, .int .i64 a), (2, .int .i64 e), (3, .int .i64 gen), (10, acc), (27, .bool false)], acc, h, fun K => ?_, fun call md n k h => r28_22c call md n k (rp p) (.int .i64 a) (.int .i64 e) (.int .i64 gen) acc (.bool false) h, by simpa using hacc, Keep.refl _ _⟩
      rw [loopK_succ]
      generalize loopK (_ : (List AV → Heap → Option (AV × Heap)) → List AV → Heap → Option (AV × Heap)) n = Lp
      simp -implicitDefEqProofs only [B28_3, ↓runK_seq, runK_seq, ↓runK_cond, runK_cond, ↓runK_block, runK_block, ↓runK_loop, runK_loop, ↓runK_skip, runK_skip, ↓runK_ret, runK_ret, ↓runK_exit, runK_exit, ↓seqE_n, seqE_n, ↓seqE_e, seqE_e, ↓seqE_r, seqE_r, ↓blkE_n, blkE_n, ↓blkE_e, blkE_e, ↓blkE_r, blkE_r, ↓retK_n, retK_n, ↓retK_r, retK_r, ↓aCall_fn, aCall_fn, ↓bnd_s, bnd_s, ↓bnd2_s, bnd2_s, ↓onB_t, onB_t, ↓onB_f, onB_f, ↓onG_tt, onG_tt, ↓onG_tf, onG_tf, ↓onG_ft, onG_ft, ↓onG_ff, onG_ff, ↓onG_s, onG_s, ↓onT_t, onT_t, ↓aPick_t, aPick_t, ↓aPick_f, aPick_f, decide_true, decide_false, st_tmp, results1, results2, List.lookup_cons, List.lookup_nil, Nat.reduceBEq, Bool.false_eq_true, ↓reduceIte, BEq.rfl, Nat.reduceLT, Option.getD_some, Option.getD_none, ↓r28_0, r28_0, ↓r28_1, r28_1, ↓r28_2, r28_2, J28_2_0, J28_2_1, J28_2_2, ↓r28_3, r28_3, ↓r28_4, r28_4, ↓r28_5, r28_5, ↓r28_6, r28_6, J28_6_0, J28_6_1, J28_6_2, J28_6_3, J28_6_4, ↓r28_7, r28_7, ↓r28_8, r28_8, ↓r28_9, r28_9, ↓r28_10, r28_10, ↓r28_11, r28_11, ↓r28_12, r28_12, ↓r28_13, r28_13, ↓r28_14, r28_14, ↓r28_15, r28_15, ↓r28_16, r28_16, ↓r28_17, r28_17, ↓r28_18, r28_18, J28_18_1, ↓r28_19, r28_19, ↓r28_20, r28_20, ↓r28_21, r28_21, ↓r28_22a, r28_22a, ↓r28_22b, r28_22b, ↓r28_22c, r28_22c, bin_geq, e0]
    obtain ⟨a, rfl⟩ : ∃ i : Nat, a = i := ⟨a.toNat, by omega⟩
    have e0 : decide ((0 : Int) ≤ (a : Nat)) = true := decide_eq_true q0
    by_cases q1 : (a : Int) < min e d.lasts.length
    case neg =>
      have e1 : decide ((a : Int) < min e d.lasts.length) = false := decide_eq_false q1
      have ho : oneOf d.now a e gen = none := by
        by_cases hlt : a < d.now.length
        · exact oneOf_head (List.getElem?_eq_getElem hlt) (.inl (by omega))
        · exact oneOf_out (by omega)
      rw [scanOf_none ho]
      refine ⟨st 102 [(0, rp p), (1, .int .i64 a), (2, .int .i64 e), (3, .int .i64 gen), (10, acc), (27, .bool false)], acc, h, fun K => ?_, fun call md n k h => r28_22c call md n k (rp p) (.int .i64 a) (.int .i64 e) (.int .i64 gen) acc (.bool false) h, by simpa using hacc, Keep.refl _ _⟩
      rw [loopK_succ]
      generalize loopK (_ : (List AV → Heap → Option (AV × Heap)) → List AV → Heap → Option (AV × Heap)) n = Lp
      simp -implicitDefEqProofs only [B28_3, ↓runK_seq, runK_seq, ↓runK_cond, runK_cond, ↓runK_block, runK_block, ↓runK_loop, runK_loop, ↓runK_skip, runK_skip, ↓runK_ret, runK_ret, ↓runK_exit, runK_exit, ↓seqE_n, seqE_n, ↓seqE_e, seqE_e, ↓seqE_r, seqE_r, ↓blkE_n, blkE_n, ↓blkE_e, blkE_e, ↓blkE_r, blkE_r, ↓retK_n, retK_n, ↓retK_r, retK_r, ↓aCall_fn, aCall_fn, ↓bnd_s, bnd_s, ↓bnd2_s, bnd2_s, ↓onB_t, onB_t, ↓onB_f, onB_f, ↓onG_tt, onG_tt, ↓onG_tf, onG_tf, ↓onG_ft, onG_ft, ↓onG_ff, onG_ff, ↓onG_s, onG_s, ↓onT_t, onT_t, ↓aPick_t, aPick_t, ↓aPick_f, aPick_f, decide_true, decide_false, st_tmp, results1, results2, List.lookup_cons, List.lookup_nil, Nat.reduceBEq, Bool.false_eq_true, ↓reduceIte, BEq.rfl, Nat.reduceLT, Option.getD_some, Option.getD_none, ↓r28_0, r28_0, ↓r28_1, r28_1, ↓r28_2, r28_2, J28_2_0, J28_2_1, J28_2_2, ↓r28_3, r28_3, ↓r28_4, r28_4, ↓r28_5, r28_5, ↓r28_6, r28_6, J28_6_0, J28_6_1, J28_6_2, J28_6_3, J28_6_4, ↓r28_7, r28_7, ↓r28_8, r28_8, ↓r28_9, r28_9, ↓r28_10, r28_10, ↓r28_11, r28_11, ↓r28_12, r28_12, ↓r28_13, r28_13, ↓r28_14, r28_14, ↓r28_15, r28_15, ↓r28_16, r28_16, ↓r28_17, r28_17, ↓r28_18, r28_18, J28_18_1, ↓r28_19, r28_19, ↓r28_20, r28_20, ↓r28_21, r28_21, ↓r28_22a, r28_22a, ↓r28_22b, r28_22b, ↓r28_22c, r28_22c, bin_geq, e0, q56, bin_lss, e1]
    have e1 : decide ((a : Int) < min e d.lasts.length) = true := decide_eq_true q1
    have hlt : a < d.now.length := by omega
    have hca : d.now[a]? = some d.now[a] := List.getElem?_eq_getElem hlt
    obtain ⟨y, r1, r2⟩ := rread_ok D hl (a : Int) false (N + 1) (by omega)
    have hrd : d.rread (a : Int) = d.now[a] := by
      unfold Dk.rread
      rw [if_pos ⟨by omega, by omega⟩, Int.toNat_natCast, hca]
      rfl
    rw [hrd] at r2
    have hlen := hnc _ (List.getElem_mem hlt)
    generalize d.now[a] = c at *
    obtain ⟨z, sz, bz⟩ := r2.from 4 (by omega)
    simp only [Int.cast_ofNat_Int] at sz
    have g1 := num_ok r2 (by omega) false h (N + 1)
    have g2 := num_ok bz (by simp; omega) false h (N + 1)
    have hone := fun nn => one_ref (nn := nn) hnc hg0 hg1 hca (show (a : Int) < e by omega)
    have hsl : (get4 (c.drop 4)).toNat < 2 ^ 32 := (get4 (c.drop 4)).isLt
    generalize hsz : (get4 (c.drop 4)).toNat = size at *
    obtain ⟨nn, hnn⟩ : ∃ nn : Nat, sizeOf size = nn := ⟨(sizeOf size).toNat, by unfold sizeOf; omega⟩
    have hnn1 : (nn : Int) = 1 + ((size : Int) + 63) / 64 := by rw [← hnn]; unfold sizeOf; omega
    have w1 : IntKind.i64.wrap ((size : Int) + 63) = (size : Int) + 63 := by rw [wrap_i64] <;> omega
    have w2 : aBinC tab .quo 3 (.int .i64 ((size : Int) + 63)) (.int .i64 64) true = some (.int .i64 (((size : Int) + 63) / 64)) := by
      rw [bin_quo _ _ _ _ _ _ (by decide), Int.tdiv_eq_ediv_of_nonneg (by omega), wrap_i64 (by omega) (by omega)]
    have w3 : IntKind.i64.wrap (1 + ((size : Int) + 63) / 64) = nn := by rw [wrap_i64] <;> omega
    have w4 : IntKind.i64.wrap (min e d.lasts.length - (a : Int)) = min e d.lasts.length - a := by rw [wrap_i64] <;> omega
    have tail1 : ((get4 c).toNat : Int) ≠ gen ∨ 8192 < size ∨ min e d.now.length - a < sizeOf size →
        ∃ tm acc' h', (∀ K : Ex → List AV → Heap → Option (AV × Heap), loopK (fun next => runK C0 (exFn C0 E0 (N + 2)) false 28 (N + 2) B28_3 (seqE next K)) (n + 1) (st 102 [(0, rp p), (1, .int .i64 a), (2, .int .i64 e), (3, .int .i64 gen), (10, acc)]) h =
          K (.exit 0) tm h') ∧ Ends28 tm acc' (scanOf d.now e gen (f + 1) a).2 ∧ ApR U h' acc' (ls ++ (scanOf d.now e gen (f + 1) a).1) ∧ Keep U h h' := by
      intro q
      rw [scanOf_none ((hone nn).1 q)]
      refine ⟨st 102 [(0, rp p), (1, .int .i64 a), (2, .int .i64 e), (3, .int .i64 gen), (10, acc), (12, .int .i64 size), (13, .int .i64 nn), (54, .bool true)], acc, h, fun K => ?_, fun call md n k h => r28_22a call md n k (rp p) (.int .i64 a) (.int .i64 e) (.int .i64 gen) acc (.int .i64 size) (.int .i64 nn) (.bool true) h, by simpa using hacc, Keep.refl _ _⟩
      rw [loopK_succ]
      generalize loopK (_ : (List AV → Heap → Option (AV × Heap)) → List AV → Heap → Option (AV × Heap)) n = Lp
      by_cases qa : ((get4 c).toNat : Int) = gen
      · have ea : decide (((get4 c).toNat : Int) ≠ gen) = false := decide_eq_false fun h => h qa
        by_cases qb : 8192 < size
        · have eb : decide ((8192 : Int) < (size : Nat)) = true := decide_eq_true (by omega)
          simp -implicitDefEqProofs only [B28_3, ↓runK_seq, runK_seq, ↓runK_cond, runK_cond, ↓runK_block, runK_block, ↓runK_loop, runK_loop, ↓runK_skip, runK_skip, ↓runK_ret, runK_ret, ↓runK_exit, runK_exit, ↓seqE_n, seqE_n, ↓seqE_e, seqE_e, ↓seqE_r, seqE_r, ↓blkE_n, blkE_n, ↓blkE_e, blkE_e, ↓blkE_r, blkE_r, ↓retK_n, retK_n, ↓retK_r, retK_r, ↓aCall_fn, aCall_fn, ↓bnd_s, bnd_s, ↓bnd2_s, bnd2_s, ↓onB_t, onB_t, ↓onB_f, onB_f, ↓onG_tt, onG_tt, ↓onG_tf, onG_tf, ↓onG_ft, onG_ft, ↓onG_ff, onG_ff, ↓onG_s, onG_s, ↓onT_t, onT_t, ↓aPick_t, aPick_t, ↓aPick_f, aPick_f, decide_true, decide_false, st_tmp, results1, results2, List.lookup_cons, List.lookup_nil, Nat.reduceBEq, Bool.false_eq_true, ↓reduceIte, BEq.rfl, Nat.reduceLT, Option.getD_some, Option.getD_none, ↓r28_0, r28_0, ↓r28_1, r28_1, ↓r28_2, r28_2, J28_2_0, J28_2_1, J28_2_2, ↓r28_3, r28_3, ↓r28_4, r28_4, ↓r28_5, r28_5, ↓r28_6, r28_6, J28_6_0, J28_6_1, J28_6_2, J28_6_3, J28_6_4, ↓r28_7, r28_7, ↓r28_8, r28_8, ↓r28_9, r28_9, ↓r28_10, r28_10, ↓r28_11, r28_11, ↓r28_12, r28_12, ↓r28_13, r28_13, ↓r28_14, r28_14, ↓r28_15, r28_15, ↓r28_16, r28_16, ↓r28_17, r28_17, ↓r28_18, r28_18, J28_18_1, ↓r28_19, r28_19, ↓r28_20, r28_20, ↓r28_21, r28_21, ↓r28_22a, r28_22a, ↓r28_22b, r28_22b, ↓r28_22c, r28_22c, bin_geq, e0, q56, bin_lss, e1, r1, sz, g2, bin_add, w1, w2, w3, g1, bin_neq, ea, bin_gtr, eb, blkE_01, seqE_e]
        · have eb : decide ((8192 : Int) < (size : Nat)) = false := decide_eq_false (by omega)
          have ec : decide (min e d.lasts.length - (a : Int) < (nn : Int)) = true := decide_eq_true (by omega)
          simp -implicitDefEqProofs only [B28_3, ↓runK_seq, runK_seq, ↓runK_cond, runK_cond, ↓runK_block, runK_block, ↓runK_loop, runK_loop, ↓runK_skip, runK_skip, ↓runK_ret, runK_ret, ↓runK_exit, runK_exit, ↓seqE_n, seqE_n, ↓seqE_e, seqE_e, ↓seqE_r, seqE_r, ↓blkE_n, blkE_n, ↓blkE_e, blkE_e, ↓blkE_r, blkE_r, ↓retK_n, retK_n, ↓retK_r, retK_r, ↓aCall_fn, aCall_fn, ↓bnd_s, bnd_s, ↓bnd2_s, bnd2_s, ↓onB_t, onB_t, ↓onB_f, onB_f, ↓onG_tt, onG_tt, ↓onG_tf, onG_tf, ↓onG_ft, onG_ft, ↓onG_ff, onG_ff, ↓onG_s, onG_s, ↓onT_t, onT_t, ↓aPick_t, aPick_t, ↓aPick_f, aPick_f, decide_true, decide_false, st_tmp, results1, results2, List.lookup_cons, List.lookup_nil, Nat.reduceBEq, Bool.false_eq_true, ↓reduceIte, BEq.rfl, Nat.reduceLT, Option.getD_some, Option.getD_none, ↓r28_0, r28_0, ↓r28_1, r28_1, ↓r28_2, r28_2, J28_2_0, J28_2_1, J28_2_2, ↓r28_3, r28_3, ↓r28_4, r28_4, ↓r28_5, r28_5, ↓r28_6, r28_6, J28_6_0, J28_6_1, J28_6_2, J28_6_3, J28_6_4, ↓r28_7, r28_7, ↓r28_8, r28_8, ↓r28_9, r28_9, ↓r28_10, r28_10, ↓r28_11, r28_11, ↓r28_12, r28_12, ↓r28_13, r28_13, ↓r28_14, r28_14, ↓r28_15, r28_15, ↓r28_16, r28_16, ↓r28_17, r28_17, ↓r28_18, r28_18, J28_18_1, ↓r28_19, r28_19, ↓r28_20, r28_20, ↓r28_21, r28_21, ↓r28_22a, r28_22a, ↓r28_22b, r28_22b, ↓r28_22c, r28_22c, bin_geq, e0, q56, bin_lss, e1, r1, sz, g2, bin_add, w1, w2, w3, g1, bin_neq, ea, bin_gtr, eb, bin_sub, w4, ec, blkE_01, seqE_e]
      · have ea : decide (((get4 c).toNat : Int) ≠ gen) = true := decide_eq_true qa
        simp -implicitDefEqProofs only [B28_3, ↓runK_seq, runK_seq, ↓runK_cond, runK_cond, ↓runK_block, runK_block, ↓runK_loop, runK_loop, ↓runK_skip, runK_skip, ↓runK_ret, runK_ret, ↓runK_exit, runK_exit, ↓seqE_n, seqE_n, ↓seqE_e, seqE_e, ↓seqE_r, seqE_r, ↓blkE_n, blkE_n, ↓blkE_e, blkE_e, ↓blkE_r, blkE_r, ↓retK_n, retK_n, ↓retK_r, retK_r, ↓aCall_fn, aCall_fn, ↓bnd_s, bnd_s, ↓bnd2_s, bnd2_s, ↓onB_t, onB_t, ↓onB_f, onB_f, ↓onG_tt, onG_tt, ↓onG_tf, onG_tf, ↓onG_ft, onG_ft, ↓onG_ff, onG_ff, ↓onG_s, onG_s, ↓onT_t, onT_t, ↓aPick_t, aPick_t, ↓aPick_f, aPick_f, decide_true, decide_false, st_tmp, results1, results2, List.lookup_cons, List.lookup_nil, Nat.reduceBEq, Bool.false_eq_true, ↓reduceIte, BEq.rfl, Nat.reduceLT, Option.getD_some, Option.getD_none, ↓r28_0, r28_0, ↓r28_1, r28_1, ↓r28_2, r28_2, J28_2_0, J28_2_1, J28_2_2, ↓r28_3, r28_3, ↓r28_4, r28_4, ↓r28_5, r28_5, ↓r28_6, r28_6, J28_6_0, J28_6_1, J28_6_2, J28_6_3, J28_6_4, ↓r28_7, r28_7, ↓r28_8, r28_8, ↓r28_9, r28_9, ↓r28_10, r28_10, ↓r28_11, r28_11, ↓r28_12, r28_12, ↓r28_13, r28_13, ↓r28_14, r28_14, ↓r28_15, r28_15, ↓r28_16, r28_16, ↓r28_17, r28_17, ↓r28_18, r28_18, J28_18_1, ↓r28_19, r28_19, ↓r28_20, r28_20, ↓r28_21, r28_21, ↓r28_22a, r28_22a, ↓r28_22b, r28_22b, ↓r28_22c, r28_22c, bin_geq, e0, q56, bin_lss, e1, r1, sz, g2, bin_add, w1, w2, w3, g1, bin_neq, ea, blkE_01, seqE_e]
    by_cases q : ((get4 c).toNat : Int) ≠ gen ∨ 8192 < size ∨ min e d.now.length - a < sizeOf size
    · exact tail1 q
    clear tail1
    obtain ⟨hno, hyes⟩ := (hone nn).2 q hnn
    have ea : decide (((get4 c).toNat : Int) ≠ gen) = false := decide_eq_false fun h => q (.inl h)
    have eb : decide ((8192 : Int) < (size : Nat)) = false := decide_eq_false (by omega)
    have ec : decide (min e d.lasts.length - (a : Int) < (nn : Int)) = false := decide_eq_false (by omega)
    have a0 : ApB (From h.length) h .nils (bodyAt d.now a 0) := .inl ⟨rfl, by simp [bodyAt]⟩
    obtain ⟨acb, h2, f1, f2, f3⟩ := rbody_loop (U := From h.length) (S := fun i => S i ∧ i < h.length) hl (fun i hi hj => Nat.not_le.2 hi.2 hj) a nn (by omega) (.int .i64 e) (.int .i64 gen) acc (.int .i64 size) (N + 1) (by omega) (nn - 1) 0 (N + 2) .nils h (by omega) (by omega) (Up.fresh h) D.cap a0
    rw [show ((0 + 1 : Nat) : Int) = 1 from rfl] at f1
    have hbl := bodyAt_length d.now hnc a (nn - 1) (by omega)
    generalize bodyAt d.now a (nn - 1) = all at *
    obtain ⟨w5, sw5, bw5⟩ := f2.bs.to size (by omega)
    have hbt : (all.take size).length = size := by rw [List.length_take]; omega
    have hnb := nOf_eq' (all.take size)
    rw [hbt] at hnb
    obtain ⟨ye, h3, s1, s2, s3⟩ := sectors_ok bw5 (by omega) gen h2 (N + 1) (by omega)
    have k13 := f3.fresh s3 (Up.fresh h)
    have D3 := D.fresh k13
    have acc3 := hacc.fresh k13
    have up3 := up.keep k13
    have el := entryOf_length gen (all.take size)
    obtain ⟨ok, c1, c2⟩ := rcmp_loop hl a s2.rw (entryOf_cells gen _) (by rw [el]; omega) (.int .i64 e) (.int .i64 gen) acc w5 (N + 1) (by omega) h3 D3 nn 0 (N + 2) true (by omega) (by omega) ⟨fun _ j hj => absurd hj (by omega), fun _ => rfl⟩
    rw [el, show nOf (all.take size) = nn by omega, show ((0 : Nat) : Int) = 0 from rfl] at c1
    rw [el] at c2
    change ok = true ↔ isEntry d.now a gen (all.take size) at c2
    cases ok
    · rw [scanOf_none (hno fun x => Bool.false_ne_true (c2.2 x))]
      refine ⟨st 102 [(0, rp p), (1, .int .i64 a), (2, .int .i64 e), (3, .int .i64 gen), (10, acc), (13, .int .i64 nn), (14, w5), (92, .bool true)], acc, h3, fun K => ?_, fun call md n k h => r28_22b call md n k (rp p) (.int .i64 a) (.int .i64 e) (.int .i64 gen) acc (.int .i64 nn) w5 (.bool true) h, by simpa using acc3, k13.up up⟩
      rw [loopK_succ]
      generalize loopK (_ : (List AV → Heap → Option (AV × Heap)) → List AV → Heap → Option (AV × Heap)) n = Lp
      simp -implicitDefEqProofs only [B28_3, ↓runK_seq, runK_seq, ↓runK_cond, runK_cond, ↓runK_block, runK_block, ↓runK_loop, runK_loop, ↓runK_skip, runK_skip, ↓runK_ret, runK_ret, ↓runK_exit, runK_exit, ↓seqE_n, seqE_n, ↓seqE_e, seqE_e, ↓seqE_r, seqE_r, ↓blkE_n, blkE_n, ↓blkE_e, blkE_e, ↓blkE_r, blkE_r, ↓retK_n, retK_n, ↓retK_r, retK_r, ↓aCall_fn, aCall_fn, ↓bnd_s, bnd_s, ↓bnd2_s, bnd2_s, ↓onB_t, onB_t, ↓onB_f, onB_f, ↓onG_tt, onG_tt, ↓onG_tf, onG_tf, ↓onG_ft, onG_ft, ↓onG_ff, onG_ff, ↓onG_s, onG_s, ↓onT_t, onT_t, ↓aPick_t, aPick_t, ↓aPick_f, aPick_f, decide_true, decide_false, st_tmp, results1, results2, List.lookup_cons, List.lookup_nil, Nat.reduceBEq, Bool.false_eq_true, ↓reduceIte, BEq.rfl, Nat.reduceLT, Option.getD_some, Option.getD_none, ↓r28_0, r28_0, ↓r28_1, r28_1, ↓r28_2, r28_2, J28_2_0, J28_2_1, J28_2_2, ↓r28_3, r28_3, ↓r28_4, r28_4, ↓r28_5, r28_5, ↓r28_6, r28_6, J28_6_0, J28_6_1, J28_6_2, J28_6_3, J28_6_4, ↓r28_7, r28_7, ↓r28_8, r28_8, ↓r28_9, r28_9, ↓r28_10, r28_10, ↓r28_11, r28_11, ↓r28_12, r28_12, ↓r28_13, r28_13, ↓r28_14, r28_14, ↓r28_15, r28_15, ↓r28_16, r28_16, ↓r28_17, r28_17, ↓r28_18, r28_18, J28_18_1, ↓r28_19, r28_19, ↓r28_20, r28_20, ↓r28_21, r28_21, ↓r28_22a, r28_22a, ↓r28_22b, r28_22b, ↓r28_22c, r28_22c, bin_geq, e0, q56, bin_lss, e1, r1, sz, g2, bin_add, w1, w2, w3, g1, bin_neq, ea, bin_gtr, eb, bin_sub, w4, ec]
      rw [f1]
      simp -implicitDefEqProofs only [↓runK_seq, runK_seq, ↓runK_cond, runK_cond, ↓runK_block, runK_block, ↓runK_loop, runK_loop, ↓runK_skip, runK_skip, ↓runK_ret, runK_ret, ↓runK_exit, runK_exit, ↓seqE_n, seqE_n, ↓seqE_e, seqE_e, ↓seqE_r, seqE_r, ↓blkE_n, blkE_n, ↓blkE_e, blkE_e, ↓blkE_r, blkE_r, ↓retK_n, retK_n, ↓retK_r, retK_r, ↓aCall_fn, aCall_fn, ↓bnd_s, bnd_s, ↓bnd2_s, bnd2_s, ↓onB_t, onB_t, ↓onB_f, onB_f, ↓onG_tt, onG_tt, ↓onG_tf, onG_tf, ↓onG_ft, onG_ft, ↓onG_ff, onG_ff, ↓onG_s, onG_s, ↓onT_t, onT_t, ↓aPick_t, aPick_t, ↓aPick_f, aPick_f, decide_true, decide_false, st_tmp, results1, results2, List.lookup_cons, List.lookup_nil, Nat.reduceBEq, Bool.false_eq_true, ↓reduceIte, BEq.rfl, Nat.reduceLT, Option.getD_some, Option.getD_none, ↓r28_0, r28_0, ↓r28_1, r28_1, ↓r28_2, r28_2, J28_2_0, J28_2_1, J28_2_2, ↓r28_3, r28_3, ↓r28_4, r28_4, ↓r28_5, r28_5, ↓r28_6, r28_6, J28_6_0, J28_6_1, J28_6_2, J28_6_3, J28_6_4, ↓r28_7, r28_7, ↓r28_8, r28_8, ↓r28_9, r28_9, ↓r28_10, r28_10, ↓r28_11, r28_11, ↓r28_12, r28_12, ↓r28_13, r28_13, ↓r28_14, r28_14, ↓r28_15, r28_15, ↓r28_16, r28_16, ↓r28_17, r28_17, ↓r28_18, r28_18, J28_18_1, ↓r28_19, r28_19, ↓r28_20, r28_20, ↓r28_21, r28_21, ↓r28_22a, r28_22a, ↓r28_22b, r28_22b, ↓r28_22c, r28_22c, sw5, s1]
      rw [c1]
      simp -implicitDefEqProofs only [↓runK_seq, runK_seq, ↓runK_cond, runK_cond, ↓runK_block, runK_block, ↓runK_loop, runK_loop, ↓runK_skip, runK_skip, ↓runK_ret, runK_ret, ↓runK_exit, runK_exit, ↓seqE_n, seqE_n, ↓seqE_e, seqE_e, ↓seqE_r, seqE_r, ↓blkE_n, blkE_n, ↓blkE_e, blkE_e, ↓blkE_r, blkE_r, ↓retK_n, retK_n, ↓retK_r, retK_r, ↓aCall_fn, aCall_fn, ↓bnd_s, bnd_s, ↓bnd2_s, bnd2_s, ↓onB_t, onB_t, ↓onB_f, onB_f, ↓onG_tt, onG_tt, ↓onG_tf, onG_tf, ↓onG_ft, onG_ft, ↓onG_ff, onG_ff, ↓onG_s, onG_s, ↓onT_t, onT_t, ↓aPick_t, aPick_t, ↓aPick_f, aPick_f, decide_true, decide_false, st_tmp, results1, results2, List.lookup_cons, List.lookup_nil, Nat.reduceBEq, Bool.false_eq_true, ↓reduceIte, BEq.rfl, Nat.reduceLT, Option.getD_some, Option.getD_none, ↓r28_0, r28_0, ↓r28_1, r28_1, ↓r28_2, r28_2, J28_2_0, J28_2_1, J28_2_2, ↓r28_3, r28_3, ↓r28_4, r28_4, ↓r28_5, r28_5, ↓r28_6, r28_6, J28_6_0, J28_6_1, J28_6_2, J28_6_3, J28_6_4, ↓r28_7, r28_7, ↓r28_8, r28_8, ↓r28_9, r28_9, ↓r28_10, r28_10, ↓r28_11, r28_11, ↓r28_12, r28_12, ↓r28_13, r28_13, ↓r28_14, r28_14, ↓r28_15, r28_15, ↓r28_16, r28_16, ↓r28_17, r28_17, ↓r28_18, r28_18, J28_18_1, ↓r28_19, r28_19, ↓r28_20, r28_20, ↓r28_21, r28_21, ↓r28_22a, r28_22a, ↓r28_22b, r28_22b, ↓r28_22c, r28_22c, un_not, Bool.not_false, blkE_01, seqE_e]
    · have ho := hyes (c2.1 rfl)
      rw [scanOf_some ho]
      have hsb : sizeOf ((all.take size).length : Nat) = nn := by rw [hbt]; exact hnn
      obtain ⟨acc', h4, ap, a2, k4⟩ := acc3.append up3 bw5 (by omega)
      have wn : IntKind.i64.wrap ((a : Int) + (nn : Int)) = ((a + nn : Nat) : Int) := by rw [wrap_i64] <;> omega
      have k14 := (k13.up up).trans k4
      rw [hsb, show (a : Int) + (nn : Int) = ((a + nn : Nat) : Int) by omega]
      obtain ⟨tm, acc'', h5, i1, i2, i3, i4⟩ := ih n ((a + nn : Nat) : Int) acc' h4 (ls ++ [all.take size]) (by omega) (by omega) (by omega) (up.keep k14) (D3.keep k4 fun j _ hj => dis j hj) a2 (by simp only [List.length_append, List.length_singleton]; omega)
      refine ⟨tm, acc'', h5, fun K => ?_, i2, by simpa using i3, k14.trans i4⟩
      rw [loopK_succ, ← i1 K]
      generalize loopK (_ : (List AV → Heap → Option (AV × Heap)) → List AV → Heap → Option (AV × Heap)) n = Lp
      simp -implicitDefEqProofs only [B28_3, ↓runK_seq, runK_seq, ↓runK_cond, runK_cond, ↓runK_block, runK_block, ↓runK_loop, runK_loop, ↓runK_skip, runK_skip, ↓runK_ret, runK_ret, ↓runK_exit, runK_exit, ↓seqE_n, seqE_n, ↓seqE_e, seqE_e, ↓seqE_r, seqE_r, ↓blkE_n, blkE_n, ↓blkE_e, blkE_e, ↓blkE_r, blkE_r, ↓retK_n, retK_n, ↓retK_r, retK_r, ↓aCall_fn, aCall_fn, ↓bnd_s, bnd_s, ↓bnd2_s, bnd2_s, ↓onB_t, onB_t, ↓onB_f, onB_f, ↓onG_tt, onG_tt, ↓onG_tf, onG_tf, ↓onG_ft, onG_ft, ↓onG_ff, onG_ff, ↓onG_s, onG_s, ↓onT_t, onT_t, ↓aPick_t, aPick_t, ↓aPick_f, aPick_f, decide_true, decide_false, st_tmp, results1, results2, List.lookup_cons, List.lookup_nil, Nat.reduceBEq, Bool.false_eq_true, ↓reduceIte, BEq.rfl, Nat.reduceLT, Option.getD_some, Option.getD_none, ↓r28_0, r28_0, ↓r28_1, r28_1, ↓r28_2, r28_2, J28_2_0, J28_2_1, J28_2_2, ↓r28_3, r28_3, ↓r28_4, r28_4, ↓r28_5, r28_5, ↓r28_6, r28_6, J28_6_0, J28_6_1, J28_6_2, J28_6_3, J28_6_4, ↓r28_7, r28_7, ↓r28_8, r28_8, ↓r28_9, r28_9, ↓r28_10, r28_10, ↓r28_11, r28_11, ↓r28_12, r28_12, ↓r28_13, r28_13, ↓r28_14, r28_14, ↓r28_15, r28_15, ↓r28_16, r28_16, ↓r28_17, r28_17, ↓r28_18, r28_18, J28_18_1, ↓r28_19, r28_19, ↓r28_20, r28_20, ↓r28_21, r28_21, ↓r28_22a, r28_22a, ↓r28_22b, r28_22b, ↓r28_22c, r28_22c, bin_geq, e0, q56, bin_lss, e1, r1, sz, g2, bin_add, w1, w2, w3, g1, bin_neq, ea, bin_gtr, eb, bin_sub, w4, ec]
      rw [f1]
      simp -implicitDefEqProofs only [↓runK_seq, runK_seq, ↓runK_cond, runK_cond, ↓runK_block, runK_block, ↓runK_loop, runK_loop, ↓runK_skip, runK_skip, ↓runK_ret, runK_ret, ↓runK_exit, runK_exit, ↓seqE_n, seqE_n, ↓seqE_e, seqE_e, ↓seqE_r, seqE_r, ↓blkE_n, blkE_n, ↓blkE_e, blkE_e, ↓blkE_r, blkE_r, ↓retK_n, retK_n, ↓retK_r, retK_r, ↓aCall_fn, aCall_fn, ↓bnd_s, bnd_s, ↓bnd2_s, bnd2_s, ↓onB_t, onB_t, ↓onB_f, onB_f, ↓onG_tt, onG_tt, ↓onG_tf, onG_tf, ↓onG_ft, onG_ft, ↓onG_ff, onG_ff, ↓onG_s, onG_s, ↓onT_t, onT_t, ↓aPick_t, aPick_t, ↓aPick_f, aPick_f, decide_true, decide_false, st_tmp, results1, results2, List.lookup_cons, List.lookup_nil, Nat.reduceBEq, Bool.false_eq_true, ↓reduceIte, BEq.rfl, Nat.reduceLT, Option.getD_some, Option.getD_none, ↓r28_0, r28_0, ↓r28_1, r28_1, ↓r28_2, r28_2, J28_2_0, J28_2_1, J28_2_2, ↓r28_3, r28_3, ↓r28_4, r28_4, ↓r28_5, r28_5, ↓r28_6, r28_6, J28_6_0, J28_6_1, J28_6_2, J28_6_3, J28_6_4, ↓r28_7, r28_7, ↓r28_8, r28_8, ↓r28_9, r28_9, ↓r28_10, r28_10, ↓r28_11, r28_11, ↓r28_12, r28_12, ↓r28_13, r28_13, ↓r28_14, r28_14, ↓r28_15, r28_15, ↓r28_16, r28_16, ↓r28_17, r28_17, ↓r28_18, r28_18, J28_18_1, ↓r28_19, r28_19, ↓r28_20, r28_20, ↓r28_21, r28_21, ↓r28_22a, r28_22a, ↓r28_22b, r28_22b, ↓r28_22c, r28_22c, sw5, s1]
      rw [c1]
      simp -implicitDefEqProofs only [↓runK_seq, runK_seq, ↓runK_cond, runK_cond, ↓runK_block, runK_block, ↓runK_loop, runK_loop, ↓runK_skip, runK_skip, ↓runK_ret, runK_ret, ↓runK_exit, runK_exit, ↓seqE_n, seqE_n, ↓seqE_e, seqE_e, ↓seqE_r, seqE_r, ↓blkE_n, blkE_n, ↓blkE_e, blkE_e, ↓blkE_r, blkE_r, ↓retK_n, retK_n, ↓retK_r, retK_r, ↓aCall_fn, aCall_fn, ↓bnd_s, bnd_s, ↓bnd2_s, bnd2_s, ↓onB_t, onB_t, ↓onB_f, onB_f, ↓onG_tt, onG_tt, ↓onG_tf, onG_tf, ↓onG_ft, onG_ft, ↓onG_ff, onG_ff, ↓onG_s, onG_s, ↓onT_t, onT_t, ↓aPick_t, aPick_t, ↓aPick_f, aPick_f, decide_true, decide_false, st_tmp, results1, results2, List.lookup_cons, List.lookup_nil, Nat.reduceBEq, Bool.false_eq_true, ↓reduceIte, BEq.rfl, Nat.reduceLT, Option.getD_some, Option.getD_none, ↓r28_0, r28_0, ↓r28_1, r28_1, ↓r28_2, r28_2, J28_2_0, J28_2_1, J28_2_2, ↓r28_3, r28_3, ↓r28_4, r28_4, ↓r28_5, r28_5, ↓r28_6, r28_6, J28_6_0, J28_6_1, J28_6_2, J28_6_3, J28_6_4, ↓r28_7, r28_7, ↓r28_8, r28_8, ↓r28_9, r28_9, ↓r28_10, r28_10, ↓r28_11, r28_11, ↓r28_12, r28_12, ↓r28_13, r28_13, ↓r28_14, r28_14, ↓r28_15, r28_15, ↓r28_16, r28_16, ↓r28_17, r28_17, ↓r28_18, r28_18, J28_18_1, ↓r28_19, r28_19, ↓r28_20, r28_20, ↓r28_21, r28_21, ↓r28_22a, r28_22a, ↓r28_22b, r28_22b, ↓r28_22c, r28_22c, un_not, Bool.not_true, lit30 _ bw5.fits, app30, ap, bin_add, wn]

theorem rscan_ok {S : Obs} {p r : Nat} {h : Heap} {d : Dk} (D : Rsk S h p r d) (hl : d.loose.length < 2 ^ 30) (a e gen : Int) (hg0 : 0 ≤ gen) (hg1 : gen < 2 ^ 31) (k : Nat) (hk : d.loose.length + 9005 < k) :
    ∃ x h', exFn C0 E0 (k + 1) false 28 [rp p, .int .i64 a, .int .i64 e, .int .i64 gen] h = some (.tuple [x, .int .i64 (d.scan a e gen).2], h') ∧
      ApR (From h.length) h' x (d.scan a e gen).1 ∧ Keep (From h.length) h h' := by
  obtain ⟨k, rfl⟩ : ∃ j, k = j + 2 := ⟨k - 2, by omega⟩
  have hfew := D.few
  have n0 : ([rp p, .int .i64 a, .int .i64 e, .int .i64 gen] ++ List.replicate (102 - [rp p, .int .i64 a, .int .i64 e, .int .i64 gen].length) AV.undef) = st 102 [(0, rp p), (1, .int .i64 a), (2, .int .i64 e), (3, .int .i64 gen)] := rfl
  obtain ⟨tm, x, h', h1, h2, h3, h4⟩ := rscan_loop (U := From h.length) (S := fun i => S i ∧ i < h.length) hl (fun i hi hj => Nat.not_le.2 hi.2 hj) e gen hg0 hg1 k (by omega) (d.lasts.length + 1) (k + 2) a .nils h [] (by omega) (by omega) (by omega)
    (Up.fresh h) D.cap ⟨[], .inl ⟨rfl, rfl⟩, .nil⟩ (by simp only [List.length_nil]; omega)
  refine ⟨x, h', exFn_of e28 ?_, h3, h4⟩
  rw [fnK, n0, s28]
  simp -implicitDefEqProofs only [↓runK_seq, runK_seq, ↓runK_cond, runK_cond, ↓runK_block, runK_block, ↓runK_loop, runK_loop, ↓runK_skip, runK_skip, ↓runK_ret, runK_ret, ↓runK_exit, runK_exit, ↓seqE_n, seqE_n, ↓seqE_e, seqE_e, ↓seqE_r, seqE_r, ↓blkE_n, blkE_n, ↓blkE_e, blkE_e, ↓blkE_r, blkE_r, ↓retK_n, retK_n, ↓retK_r, retK_r, ↓aCall_fn, aCall_fn, ↓bnd_s, bnd_s, ↓bnd2_s, bnd2_s, ↓onB_t, onB_t, ↓onB_f, onB_f, ↓onG_tt, onG_tt, ↓onG_tf, onG_tf, ↓onG_ft, onG_ft, ↓onG_ff, onG_ff, ↓onG_s, onG_s, ↓onT_t, onT_t, ↓aPick_t, aPick_t, ↓aPick_f, aPick_f, decide_true, decide_false, st_tmp, results1, results2, List.lookup_cons, List.lookup_nil, Nat.reduceBEq, Bool.false_eq_true, ↓reduceIte, BEq.rfl, Nat.reduceLT, Option.getD_some, Option.getD_none, r28_0, r28_1]
  rw [h1]
  unfold Ends28 at h2
  simp -implicitDefEqProofs only [↓runK_seq, runK_seq, ↓runK_cond, runK_cond, ↓runK_block, runK_block, ↓runK_loop, runK_loop, ↓runK_skip, runK_skip, ↓runK_ret, runK_ret, ↓runK_exit, runK_exit, ↓seqE_n, seqE_n, ↓seqE_e, seqE_e, ↓seqE_r, seqE_r, ↓blkE_n, blkE_n, ↓blkE_e, blkE_e, ↓blkE_r, blkE_r, ↓retK_n, retK_n, ↓retK_r, retK_r, ↓aCall_fn, aCall_fn, ↓bnd_s, bnd_s, ↓bnd2_s, bnd2_s, ↓onB_t, onB_t, ↓onB_f, onB_f, ↓onG_tt, onG_tt, ↓onG_tf, onG_tf, ↓onG_ft, onG_ft, ↓onG_ff, onG_ff, ↓onG_s, onG_s, ↓onT_t, onT_t, ↓aPick_t, aPick_t, ↓aPick_f, aPick_f, decide_true, decide_false, st_tmp, results1, results2, List.lookup_cons, List.lookup_nil, Nat.reduceBEq, Bool.false_eq_true, ↓reduceIte, BEq.rfl, Nat.reduceLT, Option.getD_some, Option.getD_none]
  rw [h2]
  simp -implicitDefEqProofs only [↓runK_seq, runK_seq, ↓runK_cond, runK_cond, ↓runK_block, runK_block, ↓runK_loop, runK_loop, ↓runK_skip, runK_skip, ↓runK_ret, runK_ret, ↓runK_exit, runK_exit, ↓seqE_n, seqE_n, ↓seqE_e, seqE_e, ↓seqE_r, seqE_r, ↓blkE_n, blkE_n, ↓blkE_e, blkE_e, ↓blkE_r, blkE_r, ↓retK_n, retK_n, ↓retK_r, retK_r, ↓aCall_fn, aCall_fn, ↓bnd_s, bnd_s, ↓bnd2_s, bnd2_s, ↓onB_t, onB_t, ↓onB_f, onB_f, ↓onG_tt, onG_tt, ↓onG_tf, onG_tf, ↓onG_ft, onG_ft, ↓onG_ff, onG_ff, ↓onG_s, onG_s, ↓onT_t, onT_t, ↓aPick_t, aPick_t, ↓aPick_f, aPick_f, decide_true, decide_false, st_tmp, results1, results2, List.lookup_cons, List.lookup_nil, Nat.reduceBEq, Bool.false_eq_true, ↓reduceIte, BEq.rfl, Nat.reduceLT, Option.getD_some, Option.getD_none, Dk.scan]
end Go.Ax

/- What the regions of some functions hand on. Printed by a program of mine (gen.py). -/
set_option linter.unusedVariables false
namespace Go.Ax
open Go Go.Proofs
/-! ### interregnum/interregnumlaw03.answers -/
noncomputable def O12 (i : Nat) : Array Oper := opsOf i (bodyOf Try.f12)
theorem s12 : bodyOf Try.f12 = (.seq (.region 0 (O12 0) false) (.seq (.region 1 (O12 1) false) (.seq (.region 2 (O12 2) false) (.seq (.region 3 (O12 3) false) (.seq (.region 4 (O12 4) false) .ret))))) := by kernel_rfl
theorem e12 : E0 12 = some ⟨45, [0], bodyOf Try.f12⟩ := by kernel_rfl
theorem r12_0 {β : Type} (call : CallF) (md : Bool) (n : Nat) (k : Ex → List AV → Heap → Option β) (h : Heap) :
    runK C0 call md 12 n (.region 0 (O12 0) false) k (st 45 []) h =
    k .normal (st 45 []) h
  := by kernel_rfl
theorem r12_1 {β : Type} (call : CallF) (md : Bool) (n : Nat) (k : Ex → List AV → Heap → Option β) (h : Heap) :
    runK C0 call md 12 n (.region 1 (O12 1) false) k (st 45 []) h =
    bnd2 (aCall call md (.fn (.func 13) []) [(.int .i64 6)] h) fun v1 h2 =>
    k .normal (st 45 [(1, v1)]) h2
  := by kernel_rfl
theorem r12_2 {β : Type} (call : CallF) (md : Bool) (n : Nat) (k : Ex → List AV → Heap → Option β) (x1 : AV) (h : Heap) :
    runK C0 call md 12 n (.region 2 (O12 2) false) k (st 45 [(1, x1)]) h =
    bnd2 (aRowLit tab 22 2 [(0, (.int .u8 104)), (1, (.int .u8 105))] h) fun v1 h2 =>
    bnd (aConv tab 22 22 v1 h2) fun v3 =>
    bnd2 (freezeA v3 h2) fun v4 h5 =>
    bnd2 (aCall call md (.fn (.func 14) []) [x1, (.int .i64 1), (.int .i64 6), (.int .i64 7), v4] h5) fun v6 h7 =>
    bnd (aExtract v6 0) fun v8 =>
    bnd (aExtract v6 1) fun v9 =>
    k .normal (st 45 [(1, x1), (2, v8), (3, v9)]) h7
  := by kernel_rfl
theorem r12_3 {β : Type} (call : CallF) (md : Bool) (n : Nat) (k : Ex → List AV → Heap → Option β) (x1 x2 x3 : AV) (h : Heap) :
    runK C0 call md 12 n (.region 3 (O12 3) false) k (st 45 [(1, x1), (2, x2), (3, x3)]) h =
    bnd2 (aCall call md (.fn (.func 15) []) [x1, (.int .i64 1), (.int .i64 6), (.int .i64 7)] h) fun v1 h2 =>
    bnd (aExtract v1 0) fun v3 =>
    bnd (aExtract v1 1) fun v4 =>
    k .normal (st 45 [(2, x2), (3, x3), (4, v3), (5, v4)]) h2
  := by kernel_rfl
def J12_4_10 {β : Type} (call : CallF) (md : Bool) (k : Ex → List AV → Heap → Option β) (x41 x43 : AV) (h : Heap) : Option β :=
    bnd (aPick x41 x43 (.bool false)) fun v1 =>
    k .normal (st 45 [(0, v1)]) h

theorem j12_4_10 {β : Type} (call : CallF) (md : Bool) (k : Ex → List AV → Heap → Option β) (x2 x3 x4 x5 x19 x20 x21 x22 x23 x24 x25 x26 x27 x28 x29 x30 x31 x32 x33 x34 x35 x36 x37 x38 x39 x40 x41 x42 x43 : AV) (h : Heap) :
    opsK C0 call md 12 (O12 4) ((O12 4).toList.drop 25) (st 45 [(2, x2), (3, x3), (4, x4), (5, x5), (19, x19), (20, x20), (21, x21), (22, x22), (23, x23), (24, x24), (25, x25), (26, x26), (27, x27), (28, x28), (29, x29), (30, x30), (31, x31), (32, x32), (33, x33), (34, x34), (35, x35), (36, x36), (37, x37), (38, x38), (39, x39), (40, x40), (41, x41), (42, x42), (43, x43)]) h (fun tm h => k .normal (clr (C0.keep 12 4) tm) h) = J12_4_10 call md k x41 x43 h := by kernel_rfl
def J12_4_9 {β : Type} (call : CallF) (md : Bool) (k : Ex → List AV → Heap → Option β) (x41 : AV) (h : Heap) : Option β :=
    onG true x41 (
      bnd2 (aCall call md (.fn (.func 45) []) [(.int .i64 2)] h) fun v3 h4 =>
      bnd (aBinC tab .eql 3 v3 (.int .i64 2) true) fun v5 =>
      J12_4_10 call md k x41 v5 h4) (
      J12_4_10 call md k x41 .skip h)

theorem g12_4_9 {β : Type} (call : CallF) (md : Bool) (kk : List AV → Heap → Option β) (x2 x3 x4 x5 x19 x20 x21 x22 x23 x24 x25 x26 x27 x28 x29 x30 x31 x32 x33 x34 x35 x36 x37 x38 x39 x40 x41 : AV) (h : Heap) :
    opsK C0 call md 12 (O12 4) (((O12 4).toList.drop 23).take 2) (st 45 [(2, x2), (3, x3), (4, x4), (5, x5), (19, x19), (20, x20), (21, x21), (22, x22), (23, x23), (24, x24), (25, x25), (26, x26), (27, x27), (28, x28), (29, x29), (30, x30), (31, x31), (32, x32), (33, x33), (34, x34), (35, x35), (36, x36), (37, x37), (38, x38), (39, x39), (40, x40), (41, x41)]) h kk =
    onG true x41 (
      bnd2 (aCall call md (.fn (.func 45) []) [(.int .i64 2)] h) fun v6 h7 =>
      bnd (aBinC tab .eql 3 v6 (.int .i64 2) true) fun v8 =>
      kk (st 45 [(2, x2), (3, x3), (4, x4), (5, x5), (19, x19), (20, x20), (21, x21), (22, x22), (23, x23), (24, x24), (25, x25), (26, x26), (27, x27), (28, x28), (29, x29), (30, x30), (31, x31), (32, x32), (33, x33), (34, x34), (35, x35), (36, x36), (37, x37), (38, x38), (39, x39), (40, x40), (41, x41), (42, v6), (43, v8)]) h7) (
      kk (st 45 [(2, x2), (3, x3), (4, x4), (5, x5), (19, x19), (20, x20), (21, x21), (22, x22), (23, x23), (24, x24), (25, x25), (26, x26), (27, x27), (28, x28), (29, x29), (30, x30), (31, x31), (32, x32), (33, x33), (34, x34), (35, x35), (36, x36), (37, x37), (38, x38), (39, x39), (40, x40), (41, x41), (42, .skip), (43, .skip)]) h)
  := by cases x41 with | bool b => (cases b <;> kernel_rfl) | _ => kernel_rfl
theorem j12_4_9 {β : Type} (call : CallF) (md : Bool) (k : Ex → List AV → Heap → Option β) (x2 x3 x4 x5 x19 x20 x21 x22 x23 x24 x25 x26 x27 x28 x29 x30 x31 x32 x33 x34 x35 x36 x37 x38 x39 x40 x41 : AV) (h : Heap) :
    opsK C0 call md 12 (O12 4) ((O12 4).toList.drop 23) (st 45 [(2, x2), (3, x3), (4, x4), (5, x5), (19, x19), (20, x20), (21, x21), (22, x22), (23, x23), (24, x24), (25, x25), (26, x26), (27, x27), (28, x28), (29, x29), (30, x30), (31, x31), (32, x32), (33, x33), (34, x34), (35, x35), (36, x36), (37, x37), (38, x38), (39, x39), (40, x40), (41, x41)]) h (fun tm h => k .normal (clr (C0.keep 12 4) tm) h) = J12_4_9 call md k x41 h := by
  have e : ((O12 4).toList.drop 23) = ((O12 4).toList.drop 23).take 2 ++ (O12 4).toList.drop 25 := by kernel_rfl
  rw [show opsK C0 call md 12 (O12 4) ((O12 4).toList.drop 23) = opsK C0 call md 12 (O12 4) (((O12 4).toList.drop 23).take 2 ++ (O12 4).toList.drop 25) from congrArg _ e]
  rw [opsK_append, g12_4_9]
  simp only [j12_4_10]
  rfl
def J12_4_8 {β : Type} (call : CallF) (md : Bool) (k : Ex → List AV → Heap → Option β) (x37 x39 : AV) (h : Heap) : Option β :=
    bnd (aPick x37 x39 (.bool false)) fun v9 =>
    J12_4_9 call md k v9 h

theorem g12_4_8 {β : Type} (call : CallF) (md : Bool) (kk : List AV → Heap → Option β) (x2 x3 x4 x5 x19 x20 x21 x22 x23 x24 x25 x26 x27 x28 x29 x30 x31 x32 x33 x34 x35 x36 x37 x38 x39 : AV) (h : Heap) :
    opsK C0 call md 12 (O12 4) (((O12 4).toList.drop 21).take 2) (st 45 [(2, x2), (3, x3), (4, x4), (5, x5), (19, x19), (20, x20), (21, x21), (22, x22), (23, x23), (24, x24), (25, x25), (26, x26), (27, x27), (28, x28), (29, x29), (30, x30), (31, x31), (32, x32), (33, x33), (34, x34), (35, x35), (36, x36), (37, x37), (38, x38), (39, x39)]) h kk =
    bnd (aPick x37 x39 (.bool false)) fun v10 =>
    kk (st 45 [(2, x2), (3, x3), (4, x4), (5, x5), (19, x19), (20, x20), (21, x21), (22, x22), (23, x23), (24, x24), (25, x25), (26, x26), (27, x27), (28, x28), (29, x29), (30, x30), (31, x31), (32, x32), (33, x33), (34, x34), (35, x35), (36, x36), (37, x37), (38, x38), (39, x39), (40, v10), (41, v10)]) h
  := by kernel_rfl
theorem j12_4_8 {β : Type} (call : CallF) (md : Bool) (k : Ex → List AV → Heap → Option β) (x2 x3 x4 x5 x19 x20 x21 x22 x23 x24 x25 x26 x27 x28 x29 x30 x31 x32 x33 x34 x35 x36 x37 x38 x39 : AV) (h : Heap) :
    opsK C0 call md 12 (O12 4) ((O12 4).toList.drop 21) (st 45 [(2, x2), (3, x3), (4, x4), (5, x5), (19, x19), (20, x20), (21, x21), (22, x22), (23, x23), (24, x24), (25, x25), (26, x26), (27, x27), (28, x28), (29, x29), (30, x30), (31, x31), (32, x32), (33, x33), (34, x34), (35, x35), (36, x36), (37, x37), (38, x38), (39, x39)]) h (fun tm h => k .normal (clr (C0.keep 12 4) tm) h) = J12_4_8 call md k x37 x39 h := by
  have e : ((O12 4).toList.drop 21) = ((O12 4).toList.drop 21).take 2 ++ (O12 4).toList.drop 23 := by kernel_rfl
  rw [show opsK C0 call md 12 (O12 4) ((O12 4).toList.drop 21) = opsK C0 call md 12 (O12 4) (((O12 4).toList.drop 21).take 2 ++ (O12 4).toList.drop 23) from congrArg _ e]
  rw [opsK_append, g12_4_8]
  simp only [j12_4_9]
  rfl
def J12_4_7 {β : Type} (call : CallF) (md : Bool) (k : Ex → List AV → Heap → Option β) (x5 x37 : AV) (h : Heap) : Option β :=
    onG true x37 (
      bnd (aBinC tab .eql 3 x5 (.int .i64 3) true) fun v11 =>
      J12_4_8 call md k x37 v11 h) (
      J12_4_8 call md k x37 .skip h)

theorem g12_4_7 {β : Type} (call : CallF) (md : Bool) (kk : List AV → Heap → Option β) (x2 x3 x4 x5 x19 x20 x21 x22 x23 x24 x25 x26 x27 x28 x29 x30 x31 x32 x33 x34 x35 x36 x37 : AV) (h : Heap) :
    opsK C0 call md 12 (O12 4) (((O12 4).toList.drop 19).take 2) (st 45 [(2, x2), (3, x3), (4, x4), (5, x5), (19, x19), (20, x20), (21, x21), (22, x22), (23, x23), (24, x24), (25, x25), (26, x26), (27, x27), (28, x28), (29, x29), (30, x30), (31, x31), (32, x32), (33, x33), (34, x34), (35, x35), (36, x36), (37, x37)]) h kk =
    onG true x37 (
      bnd (aBinC tab .eql 3 x5 (.int .i64 3) true) fun v12 =>
      kk (st 45 [(2, x2), (3, x3), (4, x4), (5, x5), (19, x19), (20, x20), (21, x21), (22, x22), (23, x23), (24, x24), (25, x25), (26, x26), (27, x27), (28, x28), (29, x29), (30, x30), (31, x31), (32, x32), (33, x33), (34, x34), (35, x35), (36, x36), (37, x37), (38, x5), (39, v12)]) h) (
      kk (st 45 [(2, x2), (3, x3), (4, x4), (5, x5), (19, x19), (20, x20), (21, x21), (22, x22), (23, x23), (24, x24), (25, x25), (26, x26), (27, x27), (28, x28), (29, x29), (30, x30), (31, x31), (32, x32), (33, x33), (34, x34), (35, x35), (36, x36), (37, x37), (38, .skip), (39, .skip)]) h)
  := by cases x37 with | bool b => (cases b <;> kernel_rfl) | _ => kernel_rfl
theorem j12_4_7 {β : Type} (call : CallF) (md : Bool) (k : Ex → List AV → Heap → Option β) (x2 x3 x4 x5 x19 x20 x21 x22 x23 x24 x25 x26 x27 x28 x29 x30 x31 x32 x33 x34 x35 x36 x37 : AV) (h : Heap) :
    opsK C0 call md 12 (O12 4) ((O12 4).toList.drop 19) (st 45 [(2, x2), (3, x3), (4, x4), (5, x5), (19, x19), (20, x20), (21, x21), (22, x22), (23, x23), (24, x24), (25, x25), (26, x26), (27, x27), (28, x28), (29, x29), (30, x30), (31, x31), (32, x32), (33, x33), (34, x34), (35, x35), (36, x36), (37, x37)]) h (fun tm h => k .normal (clr (C0.keep 12 4) tm) h) = J12_4_7 call md k x5 x37 h := by
  have e : ((O12 4).toList.drop 19) = ((O12 4).toList.drop 19).take 2 ++ (O12 4).toList.drop 21 := by kernel_rfl
  rw [show opsK C0 call md 12 (O12 4) ((O12 4).toList.drop 19) = opsK C0 call md 12 (O12 4) (((O12 4).toList.drop 19).take 2 ++ (O12 4).toList.drop 21) from congrArg _ e]
  rw [opsK_append, g12_4_7]
  simp only [j12_4_8]
  rfl
def J12_4_6 {β : Type} (call : CallF) (md : Bool) (k : Ex → List AV → Heap → Option β) (x5 x30 x35 : AV) (h : Heap) : Option β :=
    bnd (aPick x30 x35 (.bool false)) fun v13 =>
    J12_4_7 call md k x5 v13 h

theorem g12_4_6 {β : Type} (call : CallF) (md : Bool) (kk : List AV → Heap → Option β) (x2 x3 x4 x5 x19 x20 x21 x22 x23 x24 x25 x26 x27 x28 x29 x30 x31 x32 x33 x34 x35 : AV) (h : Heap) :
    opsK C0 call md 12 (O12 4) (((O12 4).toList.drop 17).take 2) (st 45 [(2, x2), (3, x3), (4, x4), (5, x5), (19, x19), (20, x20), (21, x21), (22, x22), (23, x23), (24, x24), (25, x25), (26, x26), (27, x27), (28, x28), (29, x29), (30, x30), (31, x31), (32, x32), (33, x33), (34, x34), (35, x35)]) h kk =
    bnd (aPick x30 x35 (.bool false)) fun v14 =>
    kk (st 45 [(2, x2), (3, x3), (4, x4), (5, x5), (19, x19), (20, x20), (21, x21), (22, x22), (23, x23), (24, x24), (25, x25), (26, x26), (27, x27), (28, x28), (29, x29), (30, x30), (31, x31), (32, x32), (33, x33), (34, x34), (35, x35), (36, v14), (37, v14)]) h
  := by kernel_rfl
theorem j12_4_6 {β : Type} (call : CallF) (md : Bool) (k : Ex → List AV → Heap → Option β) (x2 x3 x4 x5 x19 x20 x21 x22 x23 x24 x25 x26 x27 x28 x29 x30 x31 x32 x33 x34 x35 : AV) (h : Heap) :
    opsK C0 call md 12 (O12 4) ((O12 4).toList.drop 17) (st 45 [(2, x2), (3, x3), (4, x4), (5, x5), (19, x19), (20, x20), (21, x21), (22, x22), (23, x23), (24, x24), (25, x25), (26, x26), (27, x27), (28, x28), (29, x29), (30, x30), (31, x31), (32, x32), (33, x33), (34, x34), (35, x35)]) h (fun tm h => k .normal (clr (C0.keep 12 4) tm) h) = J12_4_6 call md k x5 x30 x35 h := by
  have e : ((O12 4).toList.drop 17) = ((O12 4).toList.drop 17).take 2 ++ (O12 4).toList.drop 19 := by kernel_rfl
  rw [show opsK C0 call md 12 (O12 4) ((O12 4).toList.drop 17) = opsK C0 call md 12 (O12 4) (((O12 4).toList.drop 17).take 2 ++ (O12 4).toList.drop 19) from congrArg _ e]
  rw [opsK_append, g12_4_6]
  simp only [j12_4_7]
  rfl
def J12_4_5 {β : Type} (call : CallF) (md : Bool) (k : Ex → List AV → Heap → Option β) (x4 x5 x30 : AV) (h : Heap) : Option β :=
    onG true x30 (
      bnd (aIndexAddr tab 30 x4 (.int .i64 0)) fun v15 =>
      bnd (aLoad tab 22 v15 h) fun v16 =>
      bnd (aConv tab 22 9 v16 h) fun v17 =>
      bnd (aBinC tab .eql 9 v17 (liftC (Go.Value.string {data := #[104, 105]})) true) fun v18 =>
      J12_4_6 call md k x5 x30 v18 h) (
      J12_4_6 call md k x5 x30 .skip h)

theorem g12_4_5 {β : Type} (call : CallF) (md : Bool) (kk : List AV → Heap → Option β) (x2 x3 x4 x5 x19 x20 x21 x22 x23 x24 x25 x26 x27 x28 x29 x30 : AV) (h : Heap) :
    opsK C0 call md 12 (O12 4) (((O12 4).toList.drop 12).take 5) (st 45 [(2, x2), (3, x3), (4, x4), (5, x5), (19, x19), (20, x20), (21, x21), (22, x22), (23, x23), (24, x24), (25, x25), (26, x26), (27, x27), (28, x28), (29, x29), (30, x30)]) h kk =
    onG true x30 (
      bnd (aIndexAddr tab 30 x4 (.int .i64 0)) fun v19 =>
      bnd (aLoad tab 22 v19 h) fun v20 =>
      bnd (aConv tab 22 9 v20 h) fun v21 =>
      bnd (aBinC tab .eql 9 v21 (liftC (Go.Value.string {data := #[104, 105]})) true) fun v22 =>
      kk (st 45 [(2, x2), (3, x3), (4, x4), (5, x5), (19, x19), (20, x20), (21, x21), (22, x22), (23, x23), (24, x24), (25, x25), (26, x26), (27, x27), (28, x28), (29, x29), (30, x30), (31, x4), (32, v19), (33, v20), (34, v21), (35, v22)]) h) (
      kk (st 45 [(2, x2), (3, x3), (4, x4), (5, x5), (19, x19), (20, x20), (21, x21), (22, x22), (23, x23), (24, x24), (25, x25), (26, x26), (27, x27), (28, x28), (29, x29), (30, x30), (31, .skip), (32, .skip), (33, .skip), (34, .skip), (35, .skip)]) h)
  := by cases x30 with | bool b => (cases b <;> kernel_rfl) | _ => kernel_rfl
theorem j12_4_5 {β : Type} (call : CallF) (md : Bool) (k : Ex → List AV → Heap → Option β) (x2 x3 x4 x5 x19 x20 x21 x22 x23 x24 x25 x26 x27 x28 x29 x30 : AV) (h : Heap) :
    opsK C0 call md 12 (O12 4) ((O12 4).toList.drop 12) (st 45 [(2, x2), (3, x3), (4, x4), (5, x5), (19, x19), (20, x20), (21, x21), (22, x22), (23, x23), (24, x24), (25, x25), (26, x26), (27, x27), (28, x28), (29, x29), (30, x30)]) h (fun tm h => k .normal (clr (C0.keep 12 4) tm) h) = J12_4_5 call md k x4 x5 x30 h := by
  have e : ((O12 4).toList.drop 12) = ((O12 4).toList.drop 12).take 5 ++ (O12 4).toList.drop 17 := by kernel_rfl
  rw [show opsK C0 call md 12 (O12 4) ((O12 4).toList.drop 12) = opsK C0 call md 12 (O12 4) (((O12 4).toList.drop 12).take 5 ++ (O12 4).toList.drop 17) from congrArg _ e]
  rw [opsK_append, g12_4_5]
  simp only [j12_4_6]
  rfl
def J12_4_4 {β : Type} (call : CallF) (md : Bool) (k : Ex → List AV → Heap → Option β) (x4 x5 x25 x28 : AV) (h : Heap) : Option β :=
    bnd (aPick x25 x28 (.bool false)) fun v23 =>
    J12_4_5 call md k x4 x5 v23 h

theorem g12_4_4 {β : Type} (call : CallF) (md : Bool) (kk : List AV → Heap → Option β) (x2 x3 x4 x5 x19 x20 x21 x22 x23 x24 x25 x26 x27 x28 : AV) (h : Heap) :
    opsK C0 call md 12 (O12 4) (((O12 4).toList.drop 10).take 2) (st 45 [(2, x2), (3, x3), (4, x4), (5, x5), (19, x19), (20, x20), (21, x21), (22, x22), (23, x23), (24, x24), (25, x25), (26, x26), (27, x27), (28, x28)]) h kk =
    bnd (aPick x25 x28 (.bool false)) fun v24 =>
    kk (st 45 [(2, x2), (3, x3), (4, x4), (5, x5), (19, x19), (20, x20), (21, x21), (22, x22), (23, x23), (24, x24), (25, x25), (26, x26), (27, x27), (28, x28), (29, v24), (30, v24)]) h
  := by kernel_rfl
theorem j12_4_4 {β : Type} (call : CallF) (md : Bool) (k : Ex → List AV → Heap → Option β) (x2 x3 x4 x5 x19 x20 x21 x22 x23 x24 x25 x26 x27 x28 : AV) (h : Heap) :
    opsK C0 call md 12 (O12 4) ((O12 4).toList.drop 10) (st 45 [(2, x2), (3, x3), (4, x4), (5, x5), (19, x19), (20, x20), (21, x21), (22, x22), (23, x23), (24, x24), (25, x25), (26, x26), (27, x27), (28, x28)]) h (fun tm h => k .normal (clr (C0.keep 12 4) tm) h) = J12_4_4 call md k x4 x5 x25 x28 h := by
  have e : ((O12 4).toList.drop 10) = ((O12 4).toList.drop 10).take 2 ++ (O12 4).toList.drop 12 := by kernel_rfl
  rw [show opsK C0 call md 12 (O12 4) ((O12 4).toList.drop 10) = opsK C0 call md 12 (O12 4) (((O12 4).toList.drop 10).take 2 ++ (O12 4).toList.drop 12) from congrArg _ e]
  rw [opsK_append, g12_4_4]
  simp only [j12_4_5]
  rfl
def J12_4_3 {β : Type} (call : CallF) (md : Bool) (k : Ex → List AV → Heap → Option β) (x4 x5 x25 : AV) (h : Heap) : Option β :=
    onG true x25 (
      bnd (aLen tab 30 x4) fun v25 =>
      bnd (aBinC tab .eql 3 v25 (.int .i64 1) true) fun v26 =>
      J12_4_4 call md k x4 x5 x25 v26 h) (
      J12_4_4 call md k x4 x5 x25 .skip h)

theorem g12_4_3 {β : Type} (call : CallF) (md : Bool) (kk : List AV → Heap → Option β) (x2 x3 x4 x5 x19 x20 x21 x22 x23 x24 x25 : AV) (h : Heap) :
    opsK C0 call md 12 (O12 4) (((O12 4).toList.drop 7).take 3) (st 45 [(2, x2), (3, x3), (4, x4), (5, x5), (19, x19), (20, x20), (21, x21), (22, x22), (23, x23), (24, x24), (25, x25)]) h kk =
    onG true x25 (
      bnd (aLen tab 30 x4) fun v27 =>
      bnd (aBinC tab .eql 3 v27 (.int .i64 1) true) fun v28 =>
      kk (st 45 [(2, x2), (3, x3), (4, x4), (5, x5), (19, x19), (20, x20), (21, x21), (22, x22), (23, x23), (24, x24), (25, x25), (26, x4), (27, v27), (28, v28)]) h) (
      kk (st 45 [(2, x2), (3, x3), (4, x4), (5, x5), (19, x19), (20, x20), (21, x21), (22, x22), (23, x23), (24, x24), (25, x25), (26, .skip), (27, .skip), (28, .skip)]) h)
  := by cases x25 with | bool b => (cases b <;> kernel_rfl) | _ => kernel_rfl
theorem j12_4_3 {β : Type} (call : CallF) (md : Bool) (k : Ex → List AV → Heap → Option β) (x2 x3 x4 x5 x19 x20 x21 x22 x23 x24 x25 : AV) (h : Heap) :
    opsK C0 call md 12 (O12 4) ((O12 4).toList.drop 7) (st 45 [(2, x2), (3, x3), (4, x4), (5, x5), (19, x19), (20, x20), (21, x21), (22, x22), (23, x23), (24, x24), (25, x25)]) h (fun tm h => k .normal (clr (C0.keep 12 4) tm) h) = J12_4_3 call md k x4 x5 x25 h := by
  have e : ((O12 4).toList.drop 7) = ((O12 4).toList.drop 7).take 3 ++ (O12 4).toList.drop 10 := by kernel_rfl
  rw [show opsK C0 call md 12 (O12 4) ((O12 4).toList.drop 7) = opsK C0 call md 12 (O12 4) (((O12 4).toList.drop 7).take 3 ++ (O12 4).toList.drop 10) from congrArg _ e]
  rw [opsK_append, g12_4_3]
  simp only [j12_4_4]
  rfl
def J12_4_2 {β : Type} (call : CallF) (md : Bool) (k : Ex → List AV → Heap → Option β) (x4 x5 x21 x23 : AV) (h : Heap) : Option β :=
    bnd (aPick x21 x23 (.bool false)) fun v29 =>
    J12_4_3 call md k x4 x5 v29 h

theorem g12_4_2 {β : Type} (call : CallF) (md : Bool) (kk : List AV → Heap → Option β) (x2 x3 x4 x5 x19 x20 x21 x22 x23 : AV) (h : Heap) :
    opsK C0 call md 12 (O12 4) (((O12 4).toList.drop 5).take 2) (st 45 [(2, x2), (3, x3), (4, x4), (5, x5), (19, x19), (20, x20), (21, x21), (22, x22), (23, x23)]) h kk =
    bnd (aPick x21 x23 (.bool false)) fun v30 =>
    kk (st 45 [(2, x2), (3, x3), (4, x4), (5, x5), (19, x19), (20, x20), (21, x21), (22, x22), (23, x23), (24, v30), (25, v30)]) h
  := by kernel_rfl
theorem j12_4_2 {β : Type} (call : CallF) (md : Bool) (k : Ex → List AV → Heap → Option β) (x2 x3 x4 x5 x19 x20 x21 x22 x23 : AV) (h : Heap) :
    opsK C0 call md 12 (O12 4) ((O12 4).toList.drop 5) (st 45 [(2, x2), (3, x3), (4, x4), (5, x5), (19, x19), (20, x20), (21, x21), (22, x22), (23, x23)]) h (fun tm h => k .normal (clr (C0.keep 12 4) tm) h) = J12_4_2 call md k x4 x5 x21 x23 h := by
  have e : ((O12 4).toList.drop 5) = ((O12 4).toList.drop 5).take 2 ++ (O12 4).toList.drop 7 := by kernel_rfl
  rw [show opsK C0 call md 12 (O12 4) ((O12 4).toList.drop 5) = opsK C0 call md 12 (O12 4) (((O12 4).toList.drop 5).take 2 ++ (O12 4).toList.drop 7) from congrArg _ e]
  rw [opsK_append, g12_4_2]
  simp only [j12_4_3]
  rfl
def J12_4_1 {β : Type} (call : CallF) (md : Bool) (k : Ex → List AV → Heap → Option β) (x3 x4 x5 x21 : AV) (h : Heap) : Option β :=
    onG true x21 (
      bnd (aBinC tab .eql 27 x3 (.int .i64 0) true) fun v31 =>
      J12_4_2 call md k x4 x5 x21 v31 h) (
      J12_4_2 call md k x4 x5 x21 .skip h)

theorem g12_4_1 {β : Type} (call : CallF) (md : Bool) (kk : List AV → Heap → Option β) (x2 x3 x4 x5 x19 x20 x21 : AV) (h : Heap) :
    opsK C0 call md 12 (O12 4) (((O12 4).toList.drop 3).take 2) (st 45 [(2, x2), (3, x3), (4, x4), (5, x5), (19, x19), (20, x20), (21, x21)]) h kk =
    onG true x21 (
      bnd (aBinC tab .eql 27 x3 (.int .i64 0) true) fun v32 =>
      kk (st 45 [(2, x2), (3, x3), (4, x4), (5, x5), (19, x19), (20, x20), (21, x21), (22, x3), (23, v32)]) h) (
      kk (st 45 [(2, x2), (3, x3), (4, x4), (5, x5), (19, x19), (20, x20), (21, x21), (22, .skip), (23, .skip)]) h)
  := by cases x21 with | bool b => (cases b <;> kernel_rfl) | _ => kernel_rfl
theorem j12_4_1 {β : Type} (call : CallF) (md : Bool) (k : Ex → List AV → Heap → Option β) (x2 x3 x4 x5 x19 x20 x21 : AV) (h : Heap) :
    opsK C0 call md 12 (O12 4) ((O12 4).toList.drop 3) (st 45 [(2, x2), (3, x3), (4, x4), (5, x5), (19, x19), (20, x20), (21, x21)]) h (fun tm h => k .normal (clr (C0.keep 12 4) tm) h) = J12_4_1 call md k x3 x4 x5 x21 h := by
  have e : ((O12 4).toList.drop 3) = ((O12 4).toList.drop 3).take 2 ++ (O12 4).toList.drop 5 := by kernel_rfl
  rw [show opsK C0 call md 12 (O12 4) ((O12 4).toList.drop 3) = opsK C0 call md 12 (O12 4) (((O12 4).toList.drop 3).take 2 ++ (O12 4).toList.drop 5) from congrArg _ e]
  rw [opsK_append, g12_4_1]
  simp only [j12_4_2]
  rfl
def J12_4_0 {β : Type} (call : CallF) (md : Bool) (k : Ex → List AV → Heap → Option β) (x2 x3 x4 x5 : AV) (h : Heap) : Option β :=
    bnd (aBinC tab .eql 3 x2 (.int .i64 3) true) fun v33 =>
    J12_4_1 call md k x3 x4 x5 v33 h

theorem g12_4_0 {β : Type} (call : CallF) (md : Bool) (kk : List AV → Heap → Option β) (x2 x3 x4 x5 : AV) (h : Heap) :
    opsK C0 call md 12 (O12 4) ((O12 4).toList.take 3) (st 45 [(2, x2), (3, x3), (4, x4), (5, x5)]) h kk =
    bnd (aBinC tab .eql 3 x2 (.int .i64 3) true) fun v34 =>
    kk (st 45 [(2, x2), (3, x3), (4, x4), (5, x5), (19, x2), (20, v34), (21, v34)]) h
  := by kernel_rfl
theorem j12_4_0 {β : Type} (call : CallF) (md : Bool) (k : Ex → List AV → Heap → Option β) (x2 x3 x4 x5 : AV) (h : Heap) :
    opsK C0 call md 12 (O12 4) (O12 4).toList (st 45 [(2, x2), (3, x3), (4, x4), (5, x5)]) h (fun tm h => k .normal (clr (C0.keep 12 4) tm) h) = J12_4_0 call md k x2 x3 x4 x5 h := by
  have e : (O12 4).toList = (O12 4).toList.take 3 ++ (O12 4).toList.drop 3 := by kernel_rfl
  rw [show opsK C0 call md 12 (O12 4) (O12 4).toList = opsK C0 call md 12 (O12 4) ((O12 4).toList.take 3 ++ (O12 4).toList.drop 3) from congrArg _ e]
  rw [opsK_append, g12_4_0]
  simp only [j12_4_1]
  rfl
theorem r12_4 {β : Type} (call : CallF) (md : Bool) (n : Nat) (k : Ex → List AV → Heap → Option β) (x2 x3 x4 x5 : AV) (h : Heap) :
    runK C0 call md 12 n (.region 4 (O12 4) false) k (st 45 [(2, x2), (3, x3), (4, x4), (5, x5)]) h = J12_4_0 call md k x2 x3 x4 x5 h := (runK_region C0 call md 12 n 4 (O12 4) k (st 45 [(2, x2), (3, x3), (4, x4), (5, x5)]) h).trans (j12_4_0 call md k x2 x3 x4 x5 h)
end Go.Ax

/- law 3's answers: true. -/
namespace Go.Ax
open Go Go.Proofs

theorem new_calm (n : Int) : Dk.new n = Calm (List.replicate (newN n) (List.replicate 64 0)) := rfl

theorem rowlit_hi (h : Heap) : aRowLit tab 22 2 [(0, .int .u8 104), (1, .int .u8 105)] h = some (.msl h.length [] 5 0 2, h ++ [.row 5 [U8 104, U8 105]]) := by kernel_rfl
theorem conv_hi (h : Heap) : aConv tab 22 22 (.msl h.length [] 5 0 2) (h ++ [.row 5 [U8 104, U8 105]]) = some (.msl h.length [] 5 0 2) := by
  simp [aConv]
theorem frz_hi (h : Heap) : freezeA (.msl h.length [] 5 0 2) (h ++ [.row 5 [U8 104, U8 105]]) = some (.vsl 5 [U8 104, U8 105] .none, h ++ [.dead]) := by
  simp [freezeA]

theorem idx30_0 {S : Obs} {h : Heap} {x : AV} {l : List UInt8} (a : ApR S h x [l]) : ∃ v, aIndexAddr tab 30 x (.int .i64 0) = some (.vptr 22 v) ∧ Bs v l := a.rw.idx (i := 0) rfl

def hi : List UInt8 := [104, 105]
theorem hi_bs : Bs (.vsl 5 [U8 104, U8 105] .none) hi := .inr ⟨_, rfl⟩
theorem str_hi : (⟨hi.toArray⟩ : ByteArray).toList = hi := by rw [ByteArray.toList_eq]
theorem lift_hi : liftC (Go.Value.string {data := #[104, 105]}) = .str ⟨hi.toArray⟩ := rfl

theorem lay_hi : (Dk.new 6).lay 1 6 7 hi = ((3, 0), Calm (laid (List.replicate 6 (List.replicate 64 0)) 1 7 hi)) := by
  have := lay_calm (List.replicate 6 (List.replicate 64 0)) 1 6 7 hi (by decide) (by decide) (by decide) (by decide) (by decide)
  exact this
theorem scan_hi : (Calm (laid (List.replicate 6 (List.replicate 64 0)) 1 7 hi)).scan 1 6 7 = ([hi], 3) := by
  have := scan_one (List.replicate 6 (List.replicate 64 0)) 1 6 7 hi (by decide) (by decide) (by rfl)
  rw [Dk.scan, show (Calm (laid (List.replicate 6 (List.replicate 64 0)) 1 7 hi)).lasts.length + 1 = (List.replicate 6 (List.replicate 64 (0 : UInt8))).length + 1 from by rw [show (Calm (laid (List.replicate 6 (List.replicate 64 0)) 1 7 hi)).lasts = laid (List.replicate 6 (List.replicate 64 0)) 1 7 hi from rfl, laid_length]]
  exact this

theorem answers_ok (h : Heap) (k : Nat) (hk : 9100 < k) : ∃ h', exFn C0 E0 (k + 1) false 12 [] h = some (.bool true, h') ∧ Keep (From h.length) h h' := by
  obtain ⟨k, rfl⟩ : ∃ j, k = j + 1 := ⟨k - 1, by omega⟩
  have up := Up.fresh h
  obtain ⟨p, r, h1, n1, D1, k1⟩ := new_ok 6 h false k
  have k2 : Keep (From h1.length) h1 (h1 ++ [.dead]) := Keep.app h1 _ (Up.fresh h1)
  have up2 := (up.keep k1).keep k2
  obtain ⟨h3, l1, D3, k3⟩ := lay_ok (D1.fresh k2) up2 (by decide) (by decide) 1 6 7 (by decide) hi_bs (by decide) k (by simp [Dk.new]; omega)
  rw [lay_hi] at l1 D3
  obtain ⟨x, h4, s1, s2, k4⟩ := scan_ok D3 (by decide) 1 6 7 k (by simp [Calm]; omega)
  rw [scan_hi] at s1 s2
  obtain ⟨v, iv, bv⟩ := idx30_0 s2
  have kk := (((k1.trans (k2.up (up.keep k1))).trans k3).fresh k4 up)
  have sz := size_ok 2 (by decide) false h4 k
  have c1 : decide (sizeOf 2 = 2) = true := by decide
  have c2 : decide ((3 : Int) = 3) = true := by decide
  have c3 : decide ((0 : Int) = 0) = true := by decide
  have c4 : decide ((([hi] : List (List UInt8)).length : Int) = 1) = true := by decide
  have c5 : (hi == hi) = true := by decide
  refine ⟨h4, exFn_of e12 ?_, kk⟩
  rw [fnK, show (([] : List AV) ++ List.replicate (45 - ([] : List AV).length) AV.undef) = st 45 [] from rfl, s12]
  simp -implicitDefEqProofs only [↓runK_seq, runK_seq, ↓runK_cond, runK_cond, ↓runK_block, runK_block, ↓runK_loop, runK_loop, ↓runK_skip, runK_skip, ↓runK_ret, runK_ret, ↓runK_exit, runK_exit, ↓seqE_n, seqE_n, ↓seqE_e, seqE_e, ↓seqE_r, seqE_r, ↓blkE_n, blkE_n, ↓blkE_e, blkE_e, ↓blkE_r, blkE_r, ↓retK_n, retK_n, ↓retK_r, retK_r, ↓aCall_fn, aCall_fn, ↓bnd_s, bnd_s, ↓bnd2_s, bnd2_s, ↓onB_t, onB_t, ↓onB_f, onB_f, ↓onG_tt, onG_tt, ↓onG_tf, onG_tf, ↓onG_ft, onG_ft, ↓onG_ff, onG_ff, ↓onG_s, onG_s, ↓onT_t, onT_t, ↓aPick_t, aPick_t, ↓aPick_f, aPick_f, decide_true, decide_false, st_tmp, results1, results2, List.lookup_cons, List.lookup_nil, Nat.reduceBEq, Bool.false_eq_true, ↓reduceIte, BEq.rfl, Nat.reduceLT, Option.getD_some, Option.getD_none, ↓r12_0, r12_0, ↓r12_1, r12_1, ↓r12_2, r12_2, ↓r12_3, r12_3, ↓r12_4, r12_4, J12_4_0, J12_4_1, J12_4_2, J12_4_3, J12_4_4, J12_4_5, J12_4_6, J12_4_7, J12_4_8, J12_4_9, J12_4_10, n1, rowlit_hi, conv_hi, frz_hi, l1, ext0, ext1, s1, bin_eql, c2, c3, s2.rw.len, c4, iv, load22, bv.str, lift_hi, str_eql, str_hi, c5, sz, c1]
end Go.Ax

/- What the regions of some functions hand on. Printed by a program of mine (gen.py). -/
set_option linter.unusedVariables false
namespace Go.Ax
open Go Go.Proofs
/-! ### interregnum/interregnumlaw03.RegionReads -/
noncomputable def O6 (i : Nat) : Array Oper := opsOf i (bodyOf Try.f6)
theorem s6 : bodyOf Try.f6 = (.seq (.region 0 (O6 0) false) (.seq (.seq (.region 1 (O6 1) false) (.cond (Go.Operand.tmp 22) (.seq (.region 2 (O6 2) false) .ret) .skip)) (.seq (.region 3 (O6 3) false) (.seq (.region 4 (O6 4) false) (.seq (.region 5 (O6 5) false) (.seq (.seq (.region 6 (O6 6) false) (.cond (Go.Operand.tmp 61) (.seq (.region 7 (O6 7) false) .ret) .skip)) (.seq (.region 8 (O6 8) false) (.seq (.region 9 (O6 9) false) .ret)))))))) := by kernel_rfl
theorem e6 : E0 6 = some ⟨81, [10], bodyOf Try.f6⟩ := by kernel_rfl
theorem r6_0 {β : Type} (call : CallF) (md : Bool) (n : Nat) (k : Ex → List AV → Heap → Option β) (x0 x1 x2 x3 x4 : AV) (h : Heap) :
    runK C0 call md 6 n (.region 0 (O6 0) false) k (st 81 [(0, x0), (1, x1), (2, x2), (3, x3), (4, x4)]) h =
    k .normal (st 81 [(0, x0), (1, x1), (2, x2), (3, x3), (4, x4)]) h
  := by kernel_rfl
theorem r6_1 {β : Type} (call : CallF) (md : Bool) (n : Nat) (k : Ex → List AV → Heap → Option β) (x0 x1 x2 x3 x4 : AV) (h : Heap) :
    runK C0 call md 6 n (.region 1 (O6 1) false) k (st 81 [(0, x0), (1, x1), (2, x2), (3, x3), (4, x4)]) h =
    bnd2 (aCall call md (.fn (.func 26) []) [x4] h) fun v1 h2 =>
    bnd (aUn .not v1) fun v3 =>
    k .normal (st 81 [(0, x0), (1, x1), (2, x2), (3, x3), (4, x4), (22, v3)]) h2
  := by kernel_rfl
theorem r6_2 {β : Type} (call : CallF) (md : Bool) (n : Nat) (k : Ex → List AV → Heap → Option β) (x0 x1 x2 x3 x4 x22 : AV) (h : Heap) :
    runK C0 call md 6 n (.region 2 (O6 2) false) k (st 81 [(0, x0), (1, x1), (2, x2), (3, x3), (4, x4), (22, x22)]) h =
    bnd2 (aCall call md (.fn (.func 12) []) [] h) fun v1 h2 =>
    k .normal (st 81 [(10, v1)]) h2
  := by kernel_rfl
theorem r6_3 {β : Type} (call : CallF) (md : Bool) (n : Nat) (k : Ex → List AV → Heap → Option β) (x0 x1 x2 x3 x4 x22 : AV) (h : Heap) :
    runK C0 call md 6 n (.region 3 (O6 3) false) k (st 81 [(0, x0), (1, x1), (2, x2), (3, x3), (4, x4), (22, x22)]) h =
    bnd (aBinC tab .rem 5 x0 (.int .u8 40) true) fun v1 =>
    bnd (aConv tab 5 3 v1 h) fun v2 =>
    bnd2 (aCall call md (.fn (.func 27) []) [v2, x1] h) fun v3 h4 =>
    bnd (aExtract v3 0) fun v5 =>
    bnd (aExtract v3 1) fun v6 =>
    bnd (aExtract v3 2) fun v7 =>
    k .normal (st 81 [(2, x2), (3, x3), (4, x4), (11, v5), (12, v6), (13, v7)]) h4
  := by kernel_rfl
theorem r6_4 {β : Type} (call : CallF) (md : Bool) (n : Nat) (k : Ex → List AV → Heap → Option β) (x2 x3 x4 x11 x12 x13 : AV) (h : Heap) :
    runK C0 call md 6 n (.region 4 (O6 4) false) k (st 81 [(2, x2), (3, x3), (4, x4), (11, x11), (12, x12), (13, x13)]) h =
    bnd2 (aCall call md (.fn (.func 15) []) [x11, x2, x3, x4] h) fun v1 h2 =>
    bnd (aExtract v1 0) fun v3 =>
    bnd (aExtract v1 1) fun v4 =>
    k .normal (st 81 [(2, x2), (3, x3), (4, x4), (11, x11), (12, x12), (13, x13), (14, v3), (15, v4)]) h2
  := by kernel_rfl
theorem r6_5 {β : Type} (call : CallF) (md : Bool) (n : Nat) (k : Ex → List AV → Heap → Option β) (x2 x3 x4 x11 x12 x13 x14 x15 : AV) (h : Heap) :
    runK C0 call md 6 n (.region 5 (O6 5) false) k (st 81 [(2, x2), (3, x3), (4, x4), (11, x11), (12, x12), (13, x13), (14, x14), (15, x15)]) h =
    bnd2 (aCall call md (.fn (.func 28) []) [x12, x2, x3, x4] h) fun v1 h2 =>
    bnd (aExtract v1 0) fun v3 =>
    bnd (aExtract v1 1) fun v4 =>
    k .normal (st 81 [(2, x2), (3, x3), (11, x11), (12, x12), (13, x13), (14, x14), (15, x15), (16, v3), (17, v4)]) h2
  := by kernel_rfl
def J6_6_4 {β : Type} (call : CallF) (md : Bool) (k : Ex → List AV → Heap → Option β) (x2 x3 x11 x12 x57 x60 : AV) (h : Heap) : Option β :=
    bnd (aPick x57 (.bool true) x60) fun v1 =>
    k .normal (st 81 [(2, x2), (3, x3), (11, x11), (12, x12), (61, v1)]) h

theorem j6_6_4 {β : Type} (call : CallF) (md : Bool) (k : Ex → List AV → Heap → Option β) (x2 x3 x11 x12 x13 x14 x15 x16 x17 x49 x50 x51 x52 x53 x54 x55 x56 x57 x58 x59 x60 : AV) (h : Heap) :
    opsK C0 call md 6 (O6 6) ((O6 6).toList.drop 12) (st 81 [(2, x2), (3, x3), (11, x11), (12, x12), (13, x13), (14, x14), (15, x15), (16, x16), (17, x17), (49, x49), (50, x50), (51, x51), (52, x52), (53, x53), (54, x54), (55, x55), (56, x56), (57, x57), (58, x58), (59, x59), (60, x60)]) h (fun tm h => k .normal (clr (C0.keep 6 6) tm) h) = J6_6_4 call md k x2 x3 x11 x12 x57 x60 h := by kernel_rfl
def J6_6_3 {β : Type} (call : CallF) (md : Bool) (k : Ex → List AV → Heap → Option β) (x2 x3 x11 x12 x15 x17 x57 : AV) (h : Heap) : Option β :=
    onG false x57 (
      bnd (aBinC tab .neq 3 x15 x17 false) fun v3 =>
      J6_6_4 call md k x2 x3 x11 x12 x57 v3 h) (
      J6_6_4 call md k x2 x3 x11 x12 x57 .skip h)

theorem g6_6_3 {β : Type} (call : CallF) (md : Bool) (kk : List AV → Heap → Option β) (x2 x3 x11 x12 x13 x14 x15 x16 x17 x49 x50 x51 x52 x53 x54 x55 x56 x57 : AV) (h : Heap) :
    opsK C0 call md 6 (O6 6) (((O6 6).toList.drop 9).take 3) (st 81 [(2, x2), (3, x3), (11, x11), (12, x12), (13, x13), (14, x14), (15, x15), (16, x16), (17, x17), (49, x49), (50, x50), (51, x51), (52, x52), (53, x53), (54, x54), (55, x55), (56, x56), (57, x57)]) h kk =
    onG false x57 (
      bnd (aBinC tab .neq 3 x15 x17 false) fun v4 =>
      kk (st 81 [(2, x2), (3, x3), (11, x11), (12, x12), (13, x13), (14, x14), (15, x15), (16, x16), (17, x17), (49, x49), (50, x50), (51, x51), (52, x52), (53, x53), (54, x54), (55, x55), (56, x56), (57, x57), (58, x15), (59, x17), (60, v4)]) h) (
      kk (st 81 [(2, x2), (3, x3), (11, x11), (12, x12), (13, x13), (14, x14), (15, x15), (16, x16), (17, x17), (49, x49), (50, x50), (51, x51), (52, x52), (53, x53), (54, x54), (55, x55), (56, x56), (57, x57), (58, .skip), (59, .skip), (60, .skip)]) h)
  := by cases x57 with | bool b => (cases b <;> kernel_rfl) | _ => kernel_rfl
theorem j6_6_3 {β : Type} (call : CallF) (md : Bool) (k : Ex → List AV → Heap → Option β) (x2 x3 x11 x12 x13 x14 x15 x16 x17 x49 x50 x51 x52 x53 x54 x55 x56 x57 : AV) (h : Heap) :
    opsK C0 call md 6 (O6 6) ((O6 6).toList.drop 9) (st 81 [(2, x2), (3, x3), (11, x11), (12, x12), (13, x13), (14, x14), (15, x15), (16, x16), (17, x17), (49, x49), (50, x50), (51, x51), (52, x52), (53, x53), (54, x54), (55, x55), (56, x56), (57, x57)]) h (fun tm h => k .normal (clr (C0.keep 6 6) tm) h) = J6_6_3 call md k x2 x3 x11 x12 x15 x17 x57 h := by
  have e : ((O6 6).toList.drop 9) = ((O6 6).toList.drop 9).take 3 ++ (O6 6).toList.drop 12 := by kernel_rfl
  rw [show opsK C0 call md 6 (O6 6) ((O6 6).toList.drop 9) = opsK C0 call md 6 (O6 6) (((O6 6).toList.drop 9).take 3 ++ (O6 6).toList.drop 12) from congrArg _ e]
  rw [opsK_append, g6_6_3]
  simp only [j6_6_4]
  rfl
def J6_6_2 {β : Type} (call : CallF) (md : Bool) (k : Ex → List AV → Heap → Option β) (x2 x3 x11 x12 x15 x17 x51 x55 : AV) (h : Heap) : Option β :=
    bnd (aPick x51 (.bool true) x55) fun v5 =>
    J6_6_3 call md k x2 x3 x11 x12 x15 x17 v5 h

theorem g6_6_2 {β : Type} (call : CallF) (md : Bool) (kk : List AV → Heap → Option β) (x2 x3 x11 x12 x13 x14 x15 x16 x17 x49 x50 x51 x52 x53 x54 x55 : AV) (h : Heap) :
    opsK C0 call md 6 (O6 6) (((O6 6).toList.drop 7).take 2) (st 81 [(2, x2), (3, x3), (11, x11), (12, x12), (13, x13), (14, x14), (15, x15), (16, x16), (17, x17), (49, x49), (50, x50), (51, x51), (52, x52), (53, x53), (54, x54), (55, x55)]) h kk =
    bnd (aPick x51 (.bool true) x55) fun v6 =>
    kk (st 81 [(2, x2), (3, x3), (11, x11), (12, x12), (13, x13), (14, x14), (15, x15), (16, x16), (17, x17), (49, x49), (50, x50), (51, x51), (52, x52), (53, x53), (54, x54), (55, x55), (56, v6), (57, v6)]) h
  := by kernel_rfl
theorem j6_6_2 {β : Type} (call : CallF) (md : Bool) (k : Ex → List AV → Heap → Option β) (x2 x3 x11 x12 x13 x14 x15 x16 x17 x49 x50 x51 x52 x53 x54 x55 : AV) (h : Heap) :
    opsK C0 call md 6 (O6 6) ((O6 6).toList.drop 7) (st 81 [(2, x2), (3, x3), (11, x11), (12, x12), (13, x13), (14, x14), (15, x15), (16, x16), (17, x17), (49, x49), (50, x50), (51, x51), (52, x52), (53, x53), (54, x54), (55, x55)]) h (fun tm h => k .normal (clr (C0.keep 6 6) tm) h) = J6_6_2 call md k x2 x3 x11 x12 x15 x17 x51 x55 h := by
  have e : ((O6 6).toList.drop 7) = ((O6 6).toList.drop 7).take 2 ++ (O6 6).toList.drop 9 := by kernel_rfl
  rw [show opsK C0 call md 6 (O6 6) ((O6 6).toList.drop 7) = opsK C0 call md 6 (O6 6) (((O6 6).toList.drop 7).take 2 ++ (O6 6).toList.drop 9) from congrArg _ e]
  rw [opsK_append, g6_6_2]
  simp only [j6_6_3]
  rfl
def J6_6_1 {β : Type} (call : CallF) (md : Bool) (k : Ex → List AV → Heap → Option β) (x2 x3 x11 x12 x14 x15 x16 x17 x51 : AV) (h : Heap) : Option β :=
    onG false x51 (
      bnd2 (aCall call md (.fn (.func 16) []) [x14, x16] h) fun v7 h8 =>
      bnd (aUn .not v7) fun v9 =>
      J6_6_2 call md k x2 x3 x11 x12 x15 x17 x51 v9 h8) (
      J6_6_2 call md k x2 x3 x11 x12 x15 x17 x51 .skip h)

theorem g6_6_1 {β : Type} (call : CallF) (md : Bool) (kk : List AV → Heap → Option β) (x2 x3 x11 x12 x13 x14 x15 x16 x17 x49 x50 x51 : AV) (h : Heap) :
    opsK C0 call md 6 (O6 6) (((O6 6).toList.drop 3).take 4) (st 81 [(2, x2), (3, x3), (11, x11), (12, x12), (13, x13), (14, x14), (15, x15), (16, x16), (17, x17), (49, x49), (50, x50), (51, x51)]) h kk =
    onG false x51 (
      bnd2 (aCall call md (.fn (.func 16) []) [x14, x16] h) fun v10 h11 =>
      bnd (aUn .not v10) fun v12 =>
      kk (st 81 [(2, x2), (3, x3), (11, x11), (12, x12), (13, x13), (14, x14), (15, x15), (16, x16), (17, x17), (49, x49), (50, x50), (51, x51), (52, x14), (53, x16), (54, v10), (55, v12)]) h11) (
      kk (st 81 [(2, x2), (3, x3), (11, x11), (12, x12), (13, x13), (14, x14), (15, x15), (16, x16), (17, x17), (49, x49), (50, x50), (51, x51), (52, .skip), (53, .skip), (54, .skip), (55, .skip)]) h)
  := by cases x51 with | bool b => (cases b <;> kernel_rfl) | _ => kernel_rfl
theorem j6_6_1 {β : Type} (call : CallF) (md : Bool) (k : Ex → List AV → Heap → Option β) (x2 x3 x11 x12 x13 x14 x15 x16 x17 x49 x50 x51 : AV) (h : Heap) :
    opsK C0 call md 6 (O6 6) ((O6 6).toList.drop 3) (st 81 [(2, x2), (3, x3), (11, x11), (12, x12), (13, x13), (14, x14), (15, x15), (16, x16), (17, x17), (49, x49), (50, x50), (51, x51)]) h (fun tm h => k .normal (clr (C0.keep 6 6) tm) h) = J6_6_1 call md k x2 x3 x11 x12 x14 x15 x16 x17 x51 h := by
  have e : ((O6 6).toList.drop 3) = ((O6 6).toList.drop 3).take 4 ++ (O6 6).toList.drop 7 := by kernel_rfl
  rw [show opsK C0 call md 6 (O6 6) ((O6 6).toList.drop 3) = opsK C0 call md 6 (O6 6) (((O6 6).toList.drop 3).take 4 ++ (O6 6).toList.drop 7) from congrArg _ e]
  rw [opsK_append, g6_6_1]
  simp only [j6_6_2]
  rfl
def J6_6_0 {β : Type} (call : CallF) (md : Bool) (k : Ex → List AV → Heap → Option β) (x2 x3 x11 x12 x13 x14 x15 x16 x17 : AV) (h : Heap) : Option β :=
    bnd (aUn .not x13) fun v13 =>
    J6_6_1 call md k x2 x3 x11 x12 x14 x15 x16 x17 v13 h

theorem g6_6_0 {β : Type} (call : CallF) (md : Bool) (kk : List AV → Heap → Option β) (x2 x3 x11 x12 x13 x14 x15 x16 x17 : AV) (h : Heap) :
    opsK C0 call md 6 (O6 6) ((O6 6).toList.take 3) (st 81 [(2, x2), (3, x3), (11, x11), (12, x12), (13, x13), (14, x14), (15, x15), (16, x16), (17, x17)]) h kk =
    bnd (aUn .not x13) fun v14 =>
    kk (st 81 [(2, x2), (3, x3), (11, x11), (12, x12), (13, x13), (14, x14), (15, x15), (16, x16), (17, x17), (49, x13), (50, v14), (51, v14)]) h
  := by kernel_rfl
theorem j6_6_0 {β : Type} (call : CallF) (md : Bool) (k : Ex → List AV → Heap → Option β) (x2 x3 x11 x12 x13 x14 x15 x16 x17 : AV) (h : Heap) :
    opsK C0 call md 6 (O6 6) (O6 6).toList (st 81 [(2, x2), (3, x3), (11, x11), (12, x12), (13, x13), (14, x14), (15, x15), (16, x16), (17, x17)]) h (fun tm h => k .normal (clr (C0.keep 6 6) tm) h) = J6_6_0 call md k x2 x3 x11 x12 x13 x14 x15 x16 x17 h := by
  have e : (O6 6).toList = (O6 6).toList.take 3 ++ (O6 6).toList.drop 3 := by kernel_rfl
  rw [show opsK C0 call md 6 (O6 6) (O6 6).toList = opsK C0 call md 6 (O6 6) ((O6 6).toList.take 3 ++ (O6 6).toList.drop 3) from congrArg _ e]
  rw [opsK_append, g6_6_0]
  simp only [j6_6_1]
  rfl
theorem r6_6 {β : Type} (call : CallF) (md : Bool) (n : Nat) (k : Ex → List AV → Heap → Option β) (x2 x3 x11 x12 x13 x14 x15 x16 x17 : AV) (h : Heap) :
    runK C0 call md 6 n (.region 6 (O6 6) false) k (st 81 [(2, x2), (3, x3), (11, x11), (12, x12), (13, x13), (14, x14), (15, x15), (16, x16), (17, x17)]) h = J6_6_0 call md k x2 x3 x11 x12 x13 x14 x15 x16 x17 h := (runK_region C0 call md 6 n 6 (O6 6) k (st 81 [(2, x2), (3, x3), (11, x11), (12, x12), (13, x13), (14, x14), (15, x15), (16, x16), (17, x17)]) h).trans (j6_6_0 call md k x2 x3 x11 x12 x13 x14 x15 x16 x17 h)
theorem r6_7 {β : Type} (call : CallF) (md : Bool) (n : Nat) (k : Ex → List AV → Heap → Option β) (x2 x3 x11 x12 x61 : AV) (h : Heap) :
    runK C0 call md 6 n (.region 7 (O6 7) false) k (st 81 [(2, x2), (3, x3), (11, x11), (12, x12), (61, x61)]) h =
    k .normal (st 81 [(10, (.bool false))]) h
  := by kernel_rfl
theorem r6_8 {β : Type} (call : CallF) (md : Bool) (n : Nat) (k : Ex → List AV → Heap → Option β) (x2 x3 x11 x12 x61 : AV) (h : Heap) :
    runK C0 call md 6 n (.region 8 (O6 8) false) k (st 81 [(2, x2), (3, x3), (11, x11), (12, x12), (61, x61)]) h =
    bnd2 (aCall call md (.fn (.func 19) []) [x11, x2, x3] h) fun v1 h2 =>
    bnd2 (aCall call md (.fn (.func 29) []) [x12, x2, x3] h2) fun v3 h4 =>
    k .normal (st 81 [(11, x11), (12, x12), (18, v1), (19, v3)]) h4
  := by kernel_rfl
def J6_9_4 {β : Type} (call : CallF) (md : Bool) (k : Ex → List AV → Heap → Option β) (x76 x79 : AV) (h : Heap) : Option β :=
    bnd (aPick x76 x79 (.bool false)) fun v1 =>
    k .normal (st 81 [(10, v1)]) h

theorem j6_9_4 {β : Type} (call : CallF) (md : Bool) (k : Ex → List AV → Heap → Option β) (x11 x12 x18 x19 x70 x71 x72 x73 x74 x75 x76 x77 x78 x79 : AV) (h : Heap) :
    opsK C0 call md 6 (O6 9) ((O6 9).toList.drop 10) (st 81 [(11, x11), (12, x12), (18, x18), (19, x19), (70, x70), (71, x71), (72, x72), (73, x73), (74, x74), (75, x75), (76, x76), (77, x77), (78, x78), (79, x79)]) h (fun tm h => k .normal (clr (C0.keep 6 9) tm) h) = J6_9_4 call md k x76 x79 h := by kernel_rfl
def J6_9_3 {β : Type} (call : CallF) (md : Bool) (k : Ex → List AV → Heap → Option β) (x11 x12 x76 : AV) (h : Heap) : Option β :=
    onG true x76 (
      bnd2 (aCall call md (.fn (.func 30) []) [x11, x12] h) fun v3 h4 =>
      J6_9_4 call md k x76 v3 h4) (
      J6_9_4 call md k x76 .skip h)

theorem g6_9_3 {β : Type} (call : CallF) (md : Bool) (kk : List AV → Heap → Option β) (x11 x12 x18 x19 x70 x71 x72 x73 x74 x75 x76 : AV) (h : Heap) :
    opsK C0 call md 6 (O6 9) (((O6 9).toList.drop 7).take 3) (st 81 [(11, x11), (12, x12), (18, x18), (19, x19), (70, x70), (71, x71), (72, x72), (73, x73), (74, x74), (75, x75), (76, x76)]) h kk =
    onG true x76 (
      bnd2 (aCall call md (.fn (.func 30) []) [x11, x12] h) fun v5 h6 =>
      kk (st 81 [(11, x11), (12, x12), (18, x18), (19, x19), (70, x70), (71, x71), (72, x72), (73, x73), (74, x74), (75, x75), (76, x76), (77, x11), (78, x12), (79, v5)]) h6) (
      kk (st 81 [(11, x11), (12, x12), (18, x18), (19, x19), (70, x70), (71, x71), (72, x72), (73, x73), (74, x74), (75, x75), (76, x76), (77, .skip), (78, .skip), (79, .skip)]) h)
  := by cases x76 with | bool b => (cases b <;> kernel_rfl) | _ => kernel_rfl
theorem j6_9_3 {β : Type} (call : CallF) (md : Bool) (k : Ex → List AV → Heap → Option β) (x11 x12 x18 x19 x70 x71 x72 x73 x74 x75 x76 : AV) (h : Heap) :
    opsK C0 call md 6 (O6 9) ((O6 9).toList.drop 7) (st 81 [(11, x11), (12, x12), (18, x18), (19, x19), (70, x70), (71, x71), (72, x72), (73, x73), (74, x74), (75, x75), (76, x76)]) h (fun tm h => k .normal (clr (C0.keep 6 9) tm) h) = J6_9_3 call md k x11 x12 x76 h := by
  have e : ((O6 9).toList.drop 7) = ((O6 9).toList.drop 7).take 3 ++ (O6 9).toList.drop 10 := by kernel_rfl
  rw [show opsK C0 call md 6 (O6 9) ((O6 9).toList.drop 7) = opsK C0 call md 6 (O6 9) (((O6 9).toList.drop 7).take 3 ++ (O6 9).toList.drop 10) from congrArg _ e]
  rw [opsK_append, g6_9_3]
  simp only [j6_9_4]
  rfl
def J6_9_2 {β : Type} (call : CallF) (md : Bool) (k : Ex → List AV → Heap → Option β) (x11 x12 x71 x74 : AV) (h : Heap) : Option β :=
    bnd (aPick x71 x74 (.bool false)) fun v7 =>
    J6_9_3 call md k x11 x12 v7 h

theorem g6_9_2 {β : Type} (call : CallF) (md : Bool) (kk : List AV → Heap → Option β) (x11 x12 x18 x19 x70 x71 x72 x73 x74 : AV) (h : Heap) :
    opsK C0 call md 6 (O6 9) (((O6 9).toList.drop 5).take 2) (st 81 [(11, x11), (12, x12), (18, x18), (19, x19), (70, x70), (71, x71), (72, x72), (73, x73), (74, x74)]) h kk =
    bnd (aPick x71 x74 (.bool false)) fun v8 =>
    kk (st 81 [(11, x11), (12, x12), (18, x18), (19, x19), (70, x70), (71, x71), (72, x72), (73, x73), (74, x74), (75, v8), (76, v8)]) h
  := by kernel_rfl
theorem j6_9_2 {β : Type} (call : CallF) (md : Bool) (k : Ex → List AV → Heap → Option β) (x11 x12 x18 x19 x70 x71 x72 x73 x74 : AV) (h : Heap) :
    opsK C0 call md 6 (O6 9) ((O6 9).toList.drop 5) (st 81 [(11, x11), (12, x12), (18, x18), (19, x19), (70, x70), (71, x71), (72, x72), (73, x73), (74, x74)]) h (fun tm h => k .normal (clr (C0.keep 6 9) tm) h) = J6_9_2 call md k x11 x12 x71 x74 h := by
  have e : ((O6 9).toList.drop 5) = ((O6 9).toList.drop 5).take 2 ++ (O6 9).toList.drop 7 := by kernel_rfl
  rw [show opsK C0 call md 6 (O6 9) ((O6 9).toList.drop 5) = opsK C0 call md 6 (O6 9) (((O6 9).toList.drop 5).take 2 ++ (O6 9).toList.drop 7) from congrArg _ e]
  rw [opsK_append, g6_9_2]
  simp only [j6_9_3]
  rfl
def J6_9_1 {β : Type} (call : CallF) (md : Bool) (k : Ex → List AV → Heap → Option β) (x11 x12 x18 x19 x71 : AV) (h : Heap) : Option β :=
    onG true x71 (
      bnd (aBinC tab .eql 27 x18 x19 false) fun v9 =>
      J6_9_2 call md k x11 x12 x71 v9 h) (
      J6_9_2 call md k x11 x12 x71 .skip h)

theorem g6_9_1 {β : Type} (call : CallF) (md : Bool) (kk : List AV → Heap → Option β) (x11 x12 x18 x19 x70 x71 : AV) (h : Heap) :
    opsK C0 call md 6 (O6 9) (((O6 9).toList.drop 2).take 3) (st 81 [(11, x11), (12, x12), (18, x18), (19, x19), (70, x70), (71, x71)]) h kk =
    onG true x71 (
      bnd (aBinC tab .eql 27 x18 x19 false) fun v10 =>
      kk (st 81 [(11, x11), (12, x12), (18, x18), (19, x19), (70, x70), (71, x71), (72, x18), (73, x19), (74, v10)]) h) (
      kk (st 81 [(11, x11), (12, x12), (18, x18), (19, x19), (70, x70), (71, x71), (72, .skip), (73, .skip), (74, .skip)]) h)
  := by cases x71 with | bool b => (cases b <;> kernel_rfl) | _ => kernel_rfl
theorem j6_9_1 {β : Type} (call : CallF) (md : Bool) (k : Ex → List AV → Heap → Option β) (x11 x12 x18 x19 x70 x71 : AV) (h : Heap) :
    opsK C0 call md 6 (O6 9) ((O6 9).toList.drop 2) (st 81 [(11, x11), (12, x12), (18, x18), (19, x19), (70, x70), (71, x71)]) h (fun tm h => k .normal (clr (C0.keep 6 9) tm) h) = J6_9_1 call md k x11 x12 x18 x19 x71 h := by
  have e : ((O6 9).toList.drop 2) = ((O6 9).toList.drop 2).take 3 ++ (O6 9).toList.drop 5 := by kernel_rfl
  rw [show opsK C0 call md 6 (O6 9) ((O6 9).toList.drop 2) = opsK C0 call md 6 (O6 9) (((O6 9).toList.drop 2).take 3 ++ (O6 9).toList.drop 5) from congrArg _ e]
  rw [opsK_append, g6_9_1]
  simp only [j6_9_2]
  rfl
def J6_9_0 {β : Type} (call : CallF) (md : Bool) (k : Ex → List AV → Heap → Option β) (x11 x12 x18 x19 : AV) (h : Heap) : Option β :=
    bnd2 (aCall call md (.fn (.func 12) []) [] h) fun v11 h12 =>
    J6_9_1 call md k x11 x12 x18 x19 v11 h12

theorem g6_9_0 {β : Type} (call : CallF) (md : Bool) (kk : List AV → Heap → Option β) (x11 x12 x18 x19 : AV) (h : Heap) :
    opsK C0 call md 6 (O6 9) ((O6 9).toList.take 2) (st 81 [(11, x11), (12, x12), (18, x18), (19, x19)]) h kk =
    bnd2 (aCall call md (.fn (.func 12) []) [] h) fun v13 h14 =>
    kk (st 81 [(11, x11), (12, x12), (18, x18), (19, x19), (70, v13), (71, v13)]) h14
  := by kernel_rfl
theorem j6_9_0 {β : Type} (call : CallF) (md : Bool) (k : Ex → List AV → Heap → Option β) (x11 x12 x18 x19 : AV) (h : Heap) :
    opsK C0 call md 6 (O6 9) (O6 9).toList (st 81 [(11, x11), (12, x12), (18, x18), (19, x19)]) h (fun tm h => k .normal (clr (C0.keep 6 9) tm) h) = J6_9_0 call md k x11 x12 x18 x19 h := by
  have e : (O6 9).toList = (O6 9).toList.take 2 ++ (O6 9).toList.drop 2 := by kernel_rfl
  rw [show opsK C0 call md 6 (O6 9) (O6 9).toList = opsK C0 call md 6 (O6 9) ((O6 9).toList.take 2 ++ (O6 9).toList.drop 2) from congrArg _ e]
  rw [opsK_append, g6_9_0]
  simp only [j6_9_1]
  rfl
theorem r6_9 {β : Type} (call : CallF) (md : Bool) (n : Nat) (k : Ex → List AV → Heap → Option β) (x11 x12 x18 x19 : AV) (h : Heap) :
    runK C0 call md 6 n (.region 9 (O6 9) false) k (st 81 [(11, x11), (12, x12), (18, x18), (19, x19)]) h = J6_9_0 call md k x11 x12 x18 x19 h := (runK_region C0 call md 6 n 9 (O6 9) k (st 81 [(11, x11), (12, x12), (18, x18), (19, x19)]) h).trans (j6_9_0 call md k x11 x12 x18 x19 h)
end Go.Ax

/- What the regions of some functions hand on. Printed by a program of mine (gen.py). -/
set_option linter.unusedVariables false
namespace Go.Ax
open Go Go.Proofs
/-! ### interregnum/interregnumlaw03.number -/
noncomputable def O26 (i : Nat) : Array Oper := opsOf i (bodyOf Try.f26)
theorem s26 : bodyOf Try.f26 = (.seq (.region 0 (O26 0) false) (.seq (.region 1 (O26 1) false) .ret)) := by kernel_rfl
theorem e26 : E0 26 = some ⟨9, [2], bodyOf Try.f26⟩ := by kernel_rfl
theorem r26_0 {β : Type} (call : CallF) (md : Bool) (n : Nat) (k : Ex → List AV → Heap → Option β) (x0 : AV) (h : Heap) :
    runK C0 call md 26 n (.region 0 (O26 0) false) k (st 9 [(0, x0)]) h =
    k .normal (st 9 [(0, x0)]) h
  := by kernel_rfl
def J26_1_2 {β : Type} (call : CallF) (md : Bool) (k : Ex → List AV → Heap → Option β) (x5 x7 : AV) (h : Heap) : Option β :=
    bnd (aPick x5 x7 (.bool false)) fun v1 =>
    k .normal (st 9 [(2, v1)]) h

theorem j26_1_2 {β : Type} (call : CallF) (md : Bool) (k : Ex → List AV → Heap → Option β) (x0 x3 x4 x5 x6 x7 : AV) (h : Heap) :
    opsK C0 call md 26 (O26 1) ((O26 1).toList.drop 5) (st 9 [(0, x0), (3, x3), (4, x4), (5, x5), (6, x6), (7, x7)]) h (fun tm h => k .normal (clr (C0.keep 26 1) tm) h) = J26_1_2 call md k x5 x7 h := by kernel_rfl
def J26_1_1 {β : Type} (call : CallF) (md : Bool) (k : Ex → List AV → Heap → Option β) (x0 x5 : AV) (h : Heap) : Option β :=
    onG true x5 (
      bnd (aBinC tab .leq 3 x0 (.int .i64 2147483647) true) fun v3 =>
      J26_1_2 call md k x5 v3 h) (
      J26_1_2 call md k x5 .skip h)

theorem g26_1_1 {β : Type} (call : CallF) (md : Bool) (kk : List AV → Heap → Option β) (x0 x3 x4 x5 : AV) (h : Heap) :
    opsK C0 call md 26 (O26 1) (((O26 1).toList.drop 3).take 2) (st 9 [(0, x0), (3, x3), (4, x4), (5, x5)]) h kk =
    onG true x5 (
      bnd (aBinC tab .leq 3 x0 (.int .i64 2147483647) true) fun v4 =>
      kk (st 9 [(0, x0), (3, x3), (4, x4), (5, x5), (6, x0), (7, v4)]) h) (
      kk (st 9 [(0, x0), (3, x3), (4, x4), (5, x5), (6, .skip), (7, .skip)]) h)
  := by cases x5 with | bool b => (cases b <;> kernel_rfl) | _ => kernel_rfl
theorem j26_1_1 {β : Type} (call : CallF) (md : Bool) (k : Ex → List AV → Heap → Option β) (x0 x3 x4 x5 : AV) (h : Heap) :
    opsK C0 call md 26 (O26 1) ((O26 1).toList.drop 3) (st 9 [(0, x0), (3, x3), (4, x4), (5, x5)]) h (fun tm h => k .normal (clr (C0.keep 26 1) tm) h) = J26_1_1 call md k x0 x5 h := by
  have e : ((O26 1).toList.drop 3) = ((O26 1).toList.drop 3).take 2 ++ (O26 1).toList.drop 5 := by kernel_rfl
  rw [show opsK C0 call md 26 (O26 1) ((O26 1).toList.drop 3) = opsK C0 call md 26 (O26 1) (((O26 1).toList.drop 3).take 2 ++ (O26 1).toList.drop 5) from congrArg _ e]
  rw [opsK_append, g26_1_1]
  simp only [j26_1_2]
  rfl
def J26_1_0 {β : Type} (call : CallF) (md : Bool) (k : Ex → List AV → Heap → Option β) (x0 : AV) (h : Heap) : Option β :=
    bnd (aBinC tab .geq 3 x0 (.int .i64 0) true) fun v5 =>
    J26_1_1 call md k x0 v5 h

theorem g26_1_0 {β : Type} (call : CallF) (md : Bool) (kk : List AV → Heap → Option β) (x0 : AV) (h : Heap) :
    opsK C0 call md 26 (O26 1) ((O26 1).toList.take 3) (st 9 [(0, x0)]) h kk =
    bnd (aBinC tab .geq 3 x0 (.int .i64 0) true) fun v6 =>
    kk (st 9 [(0, x0), (3, x0), (4, v6), (5, v6)]) h
  := by kernel_rfl
theorem j26_1_0 {β : Type} (call : CallF) (md : Bool) (k : Ex → List AV → Heap → Option β) (x0 : AV) (h : Heap) :
    opsK C0 call md 26 (O26 1) (O26 1).toList (st 9 [(0, x0)]) h (fun tm h => k .normal (clr (C0.keep 26 1) tm) h) = J26_1_0 call md k x0 h := by
  have e : (O26 1).toList = (O26 1).toList.take 3 ++ (O26 1).toList.drop 3 := by kernel_rfl
  rw [show opsK C0 call md 26 (O26 1) (O26 1).toList = opsK C0 call md 26 (O26 1) ((O26 1).toList.take 3 ++ (O26 1).toList.drop 3) from congrArg _ e]
  rw [opsK_append, g26_1_0]
  simp only [j26_1_1]
  rfl
theorem r26_1 {β : Type} (call : CallF) (md : Bool) (n : Nat) (k : Ex → List AV → Heap → Option β) (x0 : AV) (h : Heap) :
    runK C0 call md 26 n (.region 1 (O26 1) false) k (st 9 [(0, x0)]) h = J26_1_0 call md k x0 h := (runK_region C0 call md 26 n 1 (O26 1) k (st 9 [(0, x0)]) h).trans (j26_1_0 call md k x0 h)
end Go.Ax

/- RegionReads: its run comes to true. -/
namespace Go.Ax
open Go Go.Proofs

theorem Two.fresh {b : Nat} {F : Obs} {h h' : Heap} {p r p' r' : Nat} {d v : Dk} (T : Two b F h p r p' r' d v) (k : Keep (From h.length) h h') : Two b F h' p r p' r' d v := (T.alloc k).forget fun _ h => .inl h

theorem number_ok (gen : Int) (md : Bool) (h : Heap) (k : Nat) : exFn C0 E0 (k + 1) md 26 [.int .i64 gen] h = some (.bool (decide (0 ≤ gen ∧ gen ≤ 2147483647)), h) := by
  refine exFn_of e26 ?_
  rw [fnK, show ([AV.int .i64 gen] ++ List.replicate (9 - [AV.int .i64 gen].length) AV.undef) = st 9 [(0, .int .i64 gen)] from rfl, s26]
  by_cases h0 : 0 ≤ gen
  · have e : decide (0 ≤ gen) = true := decide_eq_true h0
    have e2 : decide (0 ≤ gen ∧ gen ≤ 2147483647) = decide (gen ≤ 2147483647) := by simp [h0]
    simp -implicitDefEqProofs only [↓runK_seq, runK_seq, ↓runK_cond, runK_cond, ↓runK_block, runK_block, ↓runK_loop, runK_loop, ↓runK_skip, runK_skip, ↓runK_ret, runK_ret, ↓runK_exit, runK_exit, ↓seqE_n, seqE_n, ↓seqE_e, seqE_e, ↓seqE_r, seqE_r, ↓blkE_n, blkE_n, ↓blkE_e, blkE_e, ↓blkE_r, blkE_r, ↓retK_n, retK_n, ↓retK_r, retK_r, ↓aCall_fn, aCall_fn, ↓bnd_s, bnd_s, ↓bnd2_s, bnd2_s, ↓onB_t, onB_t, ↓onB_f, onB_f, ↓onG_tt, onG_tt, ↓onG_tf, onG_tf, ↓onG_ft, onG_ft, ↓onG_ff, onG_ff, ↓onG_s, onG_s, ↓onT_t, onT_t, ↓aPick_t, aPick_t, ↓aPick_f, aPick_f, decide_true, decide_false, st_tmp, results1, results2, List.lookup_cons, List.lookup_nil, Nat.reduceBEq, Bool.false_eq_true, ↓reduceIte, BEq.rfl, Nat.reduceLT, Option.getD_some, Option.getD_none, ↓r26_0, r26_0, ↓r26_1, r26_1, J26_1_0, J26_1_1, J26_1_2, bin_geq, e, bin_leq, e2]
  · have e : decide (0 ≤ gen) = false := decide_eq_false h0
    have e2 : decide (0 ≤ gen ∧ gen ≤ 2147483647) = false := by simp [h0]
    simp -implicitDefEqProofs only [↓runK_seq, runK_seq, ↓runK_cond, runK_cond, ↓runK_block, runK_block, ↓runK_loop, runK_loop, ↓runK_skip, runK_skip, ↓runK_ret, runK_ret, ↓runK_exit, runK_exit, ↓seqE_n, seqE_n, ↓seqE_e, seqE_e, ↓seqE_r, seqE_r, ↓blkE_n, blkE_n, ↓blkE_e, blkE_e, ↓blkE_r, blkE_r, ↓retK_n, retK_n, ↓retK_r, retK_r, ↓aCall_fn, aCall_fn, ↓bnd_s, bnd_s, ↓bnd2_s, bnd2_s, ↓onB_t, onB_t, ↓onB_f, onB_f, ↓onG_tt, onG_tt, ↓onG_tf, onG_tf, ↓onG_ft, onG_ft, ↓onG_ff, onG_ff, ↓onG_s, onG_s, ↓onT_t, onT_t, ↓aPick_t, aPick_t, ↓aPick_f, aPick_f, decide_true, decide_false, st_tmp, results1, results2, List.lookup_cons, List.lookup_nil, Nat.reduceBEq, Bool.false_eq_true, ↓reduceIte, BEq.rfl, Nat.reduceLT, Option.getD_some, Option.getD_none, ↓r26_0, r26_0, ↓r26_1, r26_1, J26_1_0, J26_1_1, J26_1_2, bin_geq, e, e2]

/-- A slice of acts that came in. -/
def As (x : AV) (acts : List Ac) : Prop := (x = .nils ∧ acts = []) ∨ ∃ vs tk, x = .vsl 95 vs tk ∧ AcsL vs acts

theorem both_any (nn : Int) {x : AV} {acts : List Ac} (ha : As x acts) (hL : acts.length < 2 ^ 63) (h : Heap) (k : Nat) (hk : 2000 < k) :
    ∃ h' d v p r p' r', exFn C0 E0 (k + 1) false 27 [.int .i64 nn, x] h = some (.tuple [dp p, rp p', .bool true], h') ∧ Two h.length (fun _ => False) h' p r p' r' d v ∧ DkEq d v ∧ d.loose.length ≤ 60 ∧ d.fuse < 2 ^ 63 ∧ v.fuse < 2 ^ 63 ∧ Keep (From h.length) h h' := by
  rcases ha with ⟨rfl, rfl⟩ | ⟨vs, tk, rfl, ha⟩
  · obtain ⟨k, rfl⟩ : ∃ j, k = j + 3 := ⟨k - 3, by omega⟩
    obtain ⟨p, r, h1, n1, D1, k1⟩ := new_ok nn h false (k + 2)
    obtain ⟨p', r', h2, n2, R2, k2⟩ := rnew_ok nn h1 (k + 2) (by omega)
    refine ⟨h2, _, _, p, r, p', r', exFn_of e27 ?_, two_new D1 R2 k1.1 k2, DkEq.refl _, by simp [Dk.new], by simp [Dk.new], by simp [Dk.new], k1.fresh k2 (Up.fresh h)⟩
    rw [fnK, show ([.int .i64 nn, .nils] ++ List.replicate (126 - [AV.int .i64 nn, .nils].length) AV.undef) = st 126 [(0, .int .i64 nn), (1, .nils)] from rfl, s27]
    have e1 : decide ((0 : Int) < 0) = false := by decide
    have l48 : aLen tab 48 .nils = some (.int .i64 0) := by simp [aLen]
    simp -implicitDefEqProofs only [↓runK_seq, runK_seq, ↓runK_cond, runK_cond, ↓runK_block, runK_block, ↓runK_loop, runK_loop, ↓runK_skip, runK_skip, ↓runK_ret, runK_ret, ↓runK_exit, runK_exit, ↓seqE_n, seqE_n, ↓seqE_e, seqE_e, ↓seqE_r, seqE_r, ↓blkE_n, blkE_n, ↓blkE_e, blkE_e, ↓blkE_r, blkE_r, ↓retK_n, retK_n, ↓retK_r, retK_r, ↓aCall_fn, aCall_fn, ↓bnd_s, bnd_s, ↓bnd2_s, bnd2_s, ↓onB_t, onB_t, ↓onB_f, onB_f, ↓onG_tt, onG_tt, ↓onG_tf, onG_tf, ↓onG_ft, onG_ft, ↓onG_ff, onG_ff, ↓onG_s, onG_s, ↓onT_t, onT_t, ↓aPick_t, aPick_t, ↓aPick_f, aPick_f, decide_true, decide_false, st_tmp, results1, results2, List.lookup_cons, List.lookup_nil, Nat.reduceBEq, Bool.false_eq_true, ↓reduceIte, BEq.rfl, Nat.reduceLT, Option.getD_some, Option.getD_none, r27_0, r27_1, r27_2, n1, n2]
    rw [loopK_succ]
    generalize loopK (_ : (List AV → Heap → Option (AV × Heap)) → List AV → Heap → Option (AV × Heap)) _ = Lp
    simp -implicitDefEqProofs only [B27_2, ↓runK_seq, runK_seq, ↓runK_cond, runK_cond, ↓runK_block, runK_block, ↓runK_loop, runK_loop, ↓runK_skip, runK_skip, ↓runK_ret, runK_ret, ↓runK_exit, runK_exit, ↓seqE_n, seqE_n, ↓seqE_e, seqE_e, ↓seqE_r, seqE_r, ↓blkE_n, blkE_n, ↓blkE_e, blkE_e, ↓blkE_r, blkE_r, ↓retK_n, retK_n, ↓retK_r, retK_r, ↓aCall_fn, aCall_fn, ↓bnd_s, bnd_s, ↓bnd2_s, bnd2_s, ↓onB_t, onB_t, ↓onB_f, onB_f, ↓onG_tt, onG_tt, ↓onG_tf, onG_tf, ↓onG_ft, onG_ft, ↓onG_ff, onG_ff, ↓onG_s, onG_s, ↓onT_t, onT_t, ↓aPick_t, aPick_t, ↓aPick_f, aPick_f, decide_true, decide_false, st_tmp, results1, results2, List.lookup_cons, List.lookup_nil, Nat.reduceBEq, Bool.false_eq_true, ↓reduceIte, BEq.rfl, Nat.reduceLT, Option.getD_some, Option.getD_none, r27_3, J27_3_0, J27_3_1, J27_3_2, l48, bin_lss, e1, r27_28, results, List.map_cons, List.map_nil, st_getD]
  · exact both_ok nn ha hL h k hk

theorem rem40_u8 (a : Nat) : aBinC tab .rem 5 (.int .u8 a) (.int .u8 40) true = some (.int .u8 ((a % 40 : Nat) : Int)) := by
  simp [aBinC, aBin, Go.binOp, Op.intDiv, ofPure, pure, wrap_u8]
  rw [Int.tmod_eq_emod_of_nonneg (by omega)]
  try omega
theorem conv8_64' (n : Nat) (hn : n < 256) (h : Heap) : aConv tab 5 3 (.int .u8 n) h = some (.int .i64 n) := by
  simp [aConv]
  exact wrap_i64 (by omega) (by omega)
theorem ext2 (x y z : AV) : aExtract (.tuple [x, y, z]) 2 = some z := rfl
theorem ext30 (x y z : AV) : aExtract (.tuple [x, y, z]) 0 = some x := rfl
theorem ext31 (x y z : AV) : aExtract (.tuple [x, y, z]) 1 = some y := rfl
theorem eql27 (a : Int) : aBinC tab .eql 27 (.int .i64 a) (.int .i64 a) false = some (.bool true) := by
  rw [bin_eql, decide_eq_true rfl]

theorem scanOf_small {now : List (List UInt8)} (hc : ∀ b ∈ now, b.length = 64) {e gen : Int} : ∀ (f : Nat) (a : Int), (∀ b ∈ (scanOf now e gen f a).1, b.length ≤ 8192) ∧ (scanOf now e gen f a).1.length ≤ f := by
  intro f
  induction f with
  | zero => intro a; simp [scanOf]
  | succ f ih =>
    intro a
    cases ho : oneOf now a e gen with
    | none => rw [scanOf_none ho]; simp
    | some b =>
      rw [scanOf_some ho]
      have := ih (a + sizeOf b.length)
      refine ⟨fun c hcm => ?_, by simp only [List.length_cons]; omega⟩
      rcases List.mem_cons.1 hcm with rfl | hcm
      · exact (oneOf_some hc ho).2.2.2
      · exact this.1 c hcm

theorem reads_law (h : Heap) (n : Nat) {x : AV} {acts : List Ac} (ha : As x acts) (hL : acts.length < 2 ^ 63) (at' en gen : Int) (k : Nat) (hk : 9400 < k) :
    ∃ h', exFn C0 E0 (k + 1) false 6 [.int .u8 n, x, .int .i64 at', .int .i64 en, .int .i64 gen] h = some (.bool true, h') := by
  obtain ⟨k, rfl⟩ : ∃ j, k = j + 3 := ⟨k - 3, by omega⟩
  have n0 : ([.int .u8 n, x, .int .i64 at', .int .i64 en, .int .i64 gen] ++ List.replicate (81 - [.int .u8 n, x, AV.int .i64 at', .int .i64 en, .int .i64 gen].length) AV.undef) = st 81 [(0, .int .u8 n), (1, x), (2, .int .i64 at'), (3, .int .i64 en), (4, .int .i64 gen)] := rfl
  have nk := number_ok gen false h (k + 2)
  by_cases q : 0 ≤ gen ∧ gen ≤ 2147483647
  case neg =>
    obtain ⟨ha, a1, ka⟩ := answers_ok h (k + 2) (by omega)
    rw [decide_eq_false q] at nk
    refine ⟨ha, exFn_of e6 ?_⟩
    rw [fnK, n0, s6]
    simp -implicitDefEqProofs only [↓runK_seq, runK_seq, ↓runK_cond, runK_cond, ↓runK_block, runK_block, ↓runK_loop, runK_loop, ↓runK_skip, runK_skip, ↓runK_ret, runK_ret, ↓runK_exit, runK_exit, ↓seqE_n, seqE_n, ↓seqE_e, seqE_e, ↓seqE_r, seqE_r, ↓blkE_n, blkE_n, ↓blkE_e, blkE_e, ↓blkE_r, blkE_r, ↓retK_n, retK_n, ↓retK_r, retK_r, ↓aCall_fn, aCall_fn, ↓bnd_s, bnd_s, ↓bnd2_s, bnd2_s, ↓onB_t, onB_t, ↓onB_f, onB_f, ↓onG_tt, onG_tt, ↓onG_tf, onG_tf, ↓onG_ft, onG_ft, ↓onG_ff, onG_ff, ↓onG_s, onG_s, ↓onT_t, onT_t, ↓aPick_t, aPick_t, ↓aPick_f, aPick_f, decide_true, decide_false, st_tmp, results1, results2, List.lookup_cons, List.lookup_nil, Nat.reduceBEq, Bool.false_eq_true, ↓reduceIte, BEq.rfl, Nat.reduceLT, Option.getD_some, Option.getD_none, ↓r6_0, r6_0, ↓r6_1, r6_1, ↓r6_2, r6_2, ↓r6_3, r6_3, ↓r6_4, r6_4, ↓r6_5, r6_5, ↓r6_6, r6_6, J6_6_0, J6_6_1, J6_6_2, J6_6_3, J6_6_4, ↓r6_7, r6_7, ↓r6_8, r6_8, ↓r6_9, r6_9, J6_9_0, J6_9_1, J6_9_2, J6_9_3, J6_9_4, nk, un_not, Bool.not_false, a1]
  rw [decide_eq_true q] at nk
  obtain ⟨h1, d, v, p, r, p', r', b1, T1, e, hl, hf, hfv, k1⟩ := both_any ((n % 40 : Nat) : Int) ha hL h (k + 2) (by omega)
  obtain ⟨S1, D1⟩ := T1.dsk
  have hfew := D1.few
  obtain ⟨y, h2, s1, a2, k2⟩ := scan_ok D1 (by omega) at' en gen (k + 2) (by omega)
  have T2 := T1.fresh k2
  obtain ⟨S2, R2⟩ := T2.rsk
  obtain ⟨z, h3, s2, a3, k3⟩ := rscan_ok R2 (by rw [← e.loose]; omega) at' en gen q.1 (by omega) (k + 2) (by rw [← e.loose]; omega)
  rw [← e.scan] at s2 a3
  have hsm := scanOf_small D1.now_cells (e := en) (gen := gen) (d.lasts.length + 1) at'
  have T3 := T2.fresh k3
  have rw1 := rows_ok a2.rw a3.rw (by unfold Dk.scan; omega) 8193 (fun b hb => by have := hsm.1 b hb; omega) (by decide) false h3 (k + 3) (by unfold Dk.scan; omega)
  rw [decide_eq_true rfl] at rw1
  obtain ⟨U, up, D3, -, -, cl⟩ := T3.opD
  obtain ⟨h4, c1, D4, k4⟩ := clean_ok D3 up (by omega) hf at' en (k + 2) (by omega)
  obtain ⟨T4, -⟩ := cl _ _ D4 k4
  obtain ⟨U', up', R4, -, -, cl'⟩ := T4.opR
  obtain ⟨h5, c2, R5, k5⟩ := rclean_ok R4 up' (by rw [← e.loose]; omega) hfv at' en (k + 2) (by rw [← e.loose]; omega)
  obtain ⟨T5, -⟩ := cl' _ _ R5 k5
  obtain ⟨e1, e2⟩ := e.clean at' en
  rw [← e1] at c2
  obtain ⟨h6, a1, ka⟩ := answers_ok h5 (k + 2) (by omega)
  have T6 := T5.fresh ka
  obtain ⟨S6, D6⟩ := T6.dsk
  obtain ⟨S6', R6⟩ := T6.rsk
  have hlc : (d.clean at' en).2.loose.length ≤ d.loose.length + 1024 := by
    have := cleanLoop_loose (min en d.lasts.length - max at' 0).toNat (max at' 0).toNat false d
    unfold Dk.clean
    generalize cleanLoop (min en d.lasts.length - max at' 0).toNat (max at' 0).toNat false d = L at *
    obtain ⟨l1, l2, l3⟩ := L
    simp only at this ⊢
    split
    · simp only; omega
    · split
      · unfold Dk.flush
        split
        · simp [Dk.burn]; omega
        · simp
      · simp only; omega
  obtain ⟨h7, sm, k7⟩ := same2_ok e2 (by omega) D6 R6 (k + 2) (by omega)
  refine ⟨h7, exFn_of e6 ?_⟩
  have c0 : ∀ z : Int, decide (z ≠ z) = false := fun z => decide_eq_false fun h => h rfl
  rw [fnK, n0, s6]
  simp -implicitDefEqProofs only [↓runK_seq, runK_seq, ↓runK_cond, runK_cond, ↓runK_block, runK_block, ↓runK_loop, runK_loop, ↓runK_skip, runK_skip, ↓runK_ret, runK_ret, ↓runK_exit, runK_exit, ↓seqE_n, seqE_n, ↓seqE_e, seqE_e, ↓seqE_r, seqE_r, ↓blkE_n, blkE_n, ↓blkE_e, blkE_e, ↓blkE_r, blkE_r, ↓retK_n, retK_n, ↓retK_r, retK_r, ↓aCall_fn, aCall_fn, ↓bnd_s, bnd_s, ↓bnd2_s, bnd2_s, ↓onB_t, onB_t, ↓onB_f, onB_f, ↓onG_tt, onG_tt, ↓onG_tf, onG_tf, ↓onG_ft, onG_ft, ↓onG_ff, onG_ff, ↓onG_s, onG_s, ↓onT_t, onT_t, ↓aPick_t, aPick_t, ↓aPick_f, aPick_f, decide_true, decide_false, st_tmp, results1, results2, List.lookup_cons, List.lookup_nil, Nat.reduceBEq, Bool.false_eq_true, ↓reduceIte, BEq.rfl, Nat.reduceLT, Option.getD_some, Option.getD_none, ↓r6_0, r6_0, ↓r6_1, r6_1, ↓r6_2, r6_2, ↓r6_3, r6_3, ↓r6_4, r6_4, ↓r6_5, r6_5, ↓r6_6, r6_6, J6_6_0, J6_6_1, J6_6_2, J6_6_3, J6_6_4, ↓r6_7, r6_7, ↓r6_8, r6_8, ↓r6_9, r6_9, J6_9_0, J6_9_1, J6_9_2, J6_9_3, J6_9_4, nk, un_not, Bool.not_true, rem40_u8, conv8_64' (n % 40) (by omega), b1, ext0, ext1, ext2, ext30, ext31, s1, s2, rw1, bin_neq, c0, c1, c2, a1, eql27, sm]
end Go.Ax

/- What comes in, of the types that the laws name. -/
namespace Go.Ax
open Go Go.Proofs Go.RowKit

section
variable {T : Tab} {t : Ty} {x : AV}
theorem Wf.int_inv {k : IntKind} (h : Wf T t x) (hd : T.d t = .int k) : ∃ n, x = .int k n ∧ (Lit.int k n).wf = true := by
  cases h with
  | int h1 h2 => rw [hd] at h1; cases h1; exact ⟨_, rfl, h2⟩
  | bool h1 => rw [hd] at h1; cases h1
  | str h1 => rw [hd] at h1; cases h1
  | nils h1 => rw [hd] at h1; cases h1
  | vsl h1 => rw [hd] at h1; cases h1
  | struct h1 => rw [hd] at h1; cases h1
  | arr h1 => rw [hd] at h1; cases h1
theorem Wf.str_inv (h : Wf T t x) (hd : T.d t = .str) : ∃ s : ByteArray, x = .str s ∧ s.size ≤ maxLen := by
  cases h with
  | int h1 => rw [hd] at h1; cases h1
  | bool h1 => rw [hd] at h1; cases h1
  | str h1 h2 => exact ⟨_, rfl, h2⟩
  | nils h1 => rw [hd] at h1; cases h1
  | vsl h1 => rw [hd] at h1; cases h1
  | struct h1 => rw [hd] at h1; cases h1
  | arr h1 => rw [hd] at h1; cases h1
theorem Wf.bool_inv (h : Wf T t x) (hd : T.d t = .bool) : ∃ b, x = .bool b := by
  cases h with
  | int h1 => rw [hd] at h1; cases h1
  | bool h1 => exact ⟨_, rfl⟩
  | str h1 => rw [hd] at h1; cases h1
  | nils h1 => rw [hd] at h1; cases h1
  | vsl h1 => rw [hd] at h1; cases h1
  | struct h1 => rw [hd] at h1; cases h1
  | arr h1 => rw [hd] at h1; cases h1
theorem Wf.slice_inv {e : Ty} (h : Wf T t x) (hd : T.d t = .slice e) : x = .nils ∨ ∃ l, x = .vsl (T.und e) l .none ∧ l.length ≤ maxLen ∧ ∀ y ∈ l, Wf T e y := by
  cases h with
  | int h1 => rw [hd] at h1; cases h1
  | bool h1 => rw [hd] at h1; cases h1
  | str h1 => rw [hd] at h1; cases h1
  | nils h1 => exact .inl rfl
  | vsl h1 h2 h3 => rw [hd] at h1; cases h1; exact .inr ⟨_, rfl, h2, h3⟩
  | struct h1 => rw [hd] at h1; cases h1
  | arr h1 => rw [hd] at h1; cases h1
theorem Wf.struct_inv {ts : List Ty} (h : Wf T t x) (hd : T.d t = .struct ts) : ∃ fs, x = .agg (T.und t) fs ∧ fs.length = ts.length ∧ ∀ (i : Nat) (f : Ty) (x : AV), ts[i]? = some f → fs[i]? = some x → Wf T f x := by
  cases h with
  | int h1 => rw [hd] at h1; cases h1
  | bool h1 => rw [hd] at h1; cases h1
  | str h1 => rw [hd] at h1; cases h1
  | nils h1 => rw [hd] at h1; cases h1
  | vsl h1 => rw [hd] at h1; cases h1
  | struct h1 h2 h3 => rw [hd] at h1; cases h1; exact ⟨_, rfl, h2, h3⟩
  | arr h1 => rw [hd] at h1; cases h1
end

/-- A law that comes to true. -/
theorem law_calls_any {g : FuncId} {x : Fn'} (hg : E0 g = some x) {k : Nat} {args : List AV} {h' : Heap} (hr : exFn C0 E0 k false g args [] = some (.bool true, h')) {w : World} {xs : List Value} (hv : VRL tab (J0 w) args xs) :
    Calls Try.prog g xs.toArray w fun e w' => e = .returned (.bool true) ∧ Below w.heap.size w w' := law_calls hg hr hv

theorem wf_i64 {n : Int} (h : (Lit.int .i64 n).wf = true) : -9223372036854775808 ≤ n ∧ n < 9223372036854775808 := by
  simp only [Lit.wf, Bool.and_eq_true, decide_eq_true_eq] at h
  have h1 : IntKind.i64.min = -9223372036854775808 := by decide
  have h2 : IntKind.i64.max = 9223372036854775807 := by decide
  omega

theorem Wf.u8 {x : AV} (h : Wf tab 5 x) : ∃ n : Nat, n < 256 ∧ x = .int .u8 n := by
  obtain ⟨n, rfl, hn⟩ := h.int_inv rfl
  obtain ⟨a, b⟩ := wf_u8 hn
  exact ⟨n.toNat, by omega, by rw [Int.toNat_of_nonneg a]⟩
theorem Wf.i64 {x : AV} (h : Wf tab 3 x) : ∃ n : Int, (-9223372036854775808 ≤ n ∧ n < 9223372036854775808) ∧ x = .int .i64 n := by
  obtain ⟨n, rfl, hn⟩ := h.int_inv rfl
  exact ⟨n, wf_i64 hn, rfl⟩
theorem Wf.u64 {x : AV} (h : Wf tab 44 x) : ∃ n : Nat, n < 2 ^ 64 ∧ x = .int .u64 n := by
  obtain ⟨n, rfl, hn⟩ := h.int_inv rfl
  obtain ⟨a, b⟩ := wf_u64 hn
  exact ⟨n.toNat, by omega, by rw [Int.toNat_of_nonneg a]⟩

theorem bytes_of : ∀ (l : List AV), (∀ y ∈ l, Wf tab 5 y) → ∃ b : List UInt8, l = b.map U8
  | [], _ => ⟨[], rfl⟩
  | y :: l, h => by
    obtain ⟨b, rfl⟩ := bytes_of l fun z hz => h z (List.mem_cons_of_mem _ hz)
    obtain ⟨n, hn, rfl⟩ := (h y List.mem_cons_self).u8
    refine ⟨UInt8.ofNat n :: b, ?_⟩
    simp only [List.map_cons, U8, List.cons.injEq, and_true]
    congr 2
    rw [UInt8.toNat_ofNat']
    omega
theorem Wf.bytes {x : AV} (h : Wf tab 22 x) : ∃ b : List UInt8, Bs x b ∧ b.length ≤ maxLen := by
  rcases h.slice_inv rfl with rfl | ⟨l, rfl, hl, hy⟩
  · exact ⟨[], .inl ⟨rfl, rfl⟩, by simp⟩
  · obtain ⟨b, rfl⟩ := bytes_of l hy
    exact ⟨b, .inr ⟨_, rfl⟩, by simpa using hl⟩

theorem bsL_of : ∀ (l : List AV), (∀ y ∈ l, Wf tab 22 y) → ∃ ls, BsL l ls ∧ ∀ b ∈ ls, b.length ≤ maxLen
  | [], _ => ⟨[], .nil, by simp⟩
  | y :: l, h => by
    obtain ⟨ls, h1, h2⟩ := bsL_of l fun z hz => h z (List.mem_cons_of_mem _ hz)
    obtain ⟨b, hb, hl⟩ := (h y List.mem_cons_self).bytes
    exact ⟨b :: ls, .cons hb h1, fun c hc => by rcases List.mem_cons.1 hc with rfl | hc; exact hl; exact h2 c hc⟩
theorem Wf.rows {x : AV} (h : Wf tab 30 x) : ∃ ls, Rw x ls ∧ ls.length ≤ maxLen ∧ ∀ b ∈ ls, b.length ≤ maxLen := by
  rcases h.slice_inv rfl with rfl | ⟨l, rfl, hl, hy⟩
  · exact ⟨[], .inl ⟨rfl, rfl⟩, by simp, by simp⟩
  · obtain ⟨ls, h1, h2⟩ := bsL_of l hy
    exact ⟨ls, .inr ⟨_, _, rfl, h1⟩, by rw [← h1.length]; exact hl, h2⟩

theorem acts_of : ∀ (l : List AV), (∀ y ∈ l, Wf tab 96 y) → ∃ acts, AcsL l acts
  | [], _ => ⟨[], .nil⟩
  | y :: l, h => by
    obtain ⟨acts, h1⟩ := acts_of l fun z hz => h z (List.mem_cons_of_mem _ hz)
    obtain ⟨fs, rfl, hl, hf⟩ := (h y List.mem_cons_self).struct_inv (ts := [3, 3, 3, 22, 44]) rfl
    match fs, hl with
    | [a, b, c, d, e], _ =>
      obtain ⟨w, -, rfl⟩ := (hf 0 3 a rfl rfl).i64
      obtain ⟨p, -, rfl⟩ := (hf 1 3 b rfl rfl).i64
      obtain ⟨n, hn, rfl⟩ := (hf 2 3 c rfl rfl).i64
      obtain ⟨bs, hb, -⟩ := (hf 3 22 d rfl rfl).bytes
      obtain ⟨kp, hk, rfl⟩ := (hf 4 44 e rfl rfl).u64
      exact ⟨⟨w, p, n, bs, kp⟩ :: acts, AcsL.cons (a := ⟨w, p, n, bs, kp⟩) hb hk (by show n < 2 ^ 63; omega) h1⟩
theorem Wf.acts {x : AV} (h : Wf tab 48 x) : ∃ acts, As x acts ∧ acts.length < 2 ^ 63 := by
  rcases h.slice_inv rfl with rfl | ⟨l, rfl, hl, hy⟩
  · exact ⟨[], .inl ⟨rfl, rfl⟩, by simp⟩
  · obtain ⟨acts, h1⟩ := acts_of l hy
    have hm : maxLen < 2 ^ 63 := by decide
    exact ⟨acts, .inr ⟨_, _, rfl, h1⟩, by rw [← h1.length]; omega⟩
end Go.Ax
