/- An interpreter of Go code over a small abstract heap, proved sound against the model, and what the functions that WalFull reaches compute (part 5); each theorem for the inputs that it names. -/
import Derived.Test.YtihjfpecjeplpaaWalFullP4
set_option linter.unusedSimpArgs false
set_option linter.unusedVariables false

set_option linter.unusedVariables false
namespace Go.Ax
open Go Go.Proofs
noncomputable def O36 (i : Nat) : Array Oper := opsOf i (bodyOf Try.f36)
theorem s36 : bodyOf Try.f36 = (.seq (.region 0 (O36 0) false) (.seq (.region 1 (O36 1) false) (.seq (.region 2 (O36 2) false) (.seq (.region 3 (O36 3) false) (.seq (.region 4 (O36 4) false) (.seq (.region 5 (O36 5) false) .ret)))))) := by kernel_rfl
theorem e36 : E0 36 = some ⟨58, [0], bodyOf Try.f36⟩ := by kernel_rfl
theorem r36_0 {β : Type} (call : CallF) (md : Bool) (n : Nat) (k : Ex → List AV → Heap → Option β) (h : Heap) :
    runK C0 call md 36 n (.region 0 (O36 0) false) k (st 58 []) h =
    k .normal (st 58 []) h
  := by kernel_rfl
theorem r36_1 {β : Type} (call : CallF) (md : Bool) (n : Nat) (k : Ex → List AV → Heap → Option β) (h : Heap) :
    runK C0 call md 36 n (.region 1 (O36 1) false) k (st 58 []) h =
    bnd2 (aCall call md (.fn (.func 13) []) [(.int .i64 40)] h) fun v1 h2 =>
    k .normal (st 58 [(1, v1)]) h2
  := by kernel_rfl
theorem r36_2 {β : Type} (call : CallF) (md : Bool) (n : Nat) (k : Ex → List AV → Heap → Option β) (x1 : AV) (h : Heap) :
    runK C0 call md 36 n (.region 2 (O36 2) false) k (st 58 [(1, x1)]) h =
    bnd2 (aCall call md (.fn (.func 31) []) [x1] h) fun v1 h2 =>
    bnd (aExtract v1 0) fun v3 =>
    bnd (aExtract v1 1) fun v4 =>
    bnd (aExtract v1 2) fun v5 =>
    k .normal (st 58 [(1, x1), (2, v3), (4, v5)]) h2
  := by kernel_rfl
theorem r36_3 {β : Type} (call : CallF) (md : Bool) (n : Nat) (k : Ex → List AV → Heap → Option β) (x1 x2 x4 : AV) (h : Heap) :
    runK C0 call md 36 n (.region 3 (O36 3) false) k (st 58 [(1, x1), (2, x2), (4, x4)]) h =
    bnd2 (aRowLit tab 22 2 [(0, (.int .u8 104)), (1, (.int .u8 105))] h) fun v1 h2 =>
    bnd (aConv tab 22 22 v1 h2) fun v3 =>
    bnd2 (freezeA v3 h2) fun v4 h5 =>
    bnd2 (aCall call md (.fn (.func 33) []) [x2, v4] h5) fun v6 h7 =>
    k .normal (st 58 [(1, x1), (2, x2), (4, x4), (5, v6)]) h7
  := by kernel_rfl
theorem r36_4 {β : Type} (call : CallF) (md : Bool) (n : Nat) (k : Ex → List AV → Heap → Option β) (x1 x2 x4 x5 : AV) (h : Heap) :
    runK C0 call md 36 n (.region 4 (O36 4) false) k (st 58 [(1, x1), (2, x2), (4, x4), (5, x5)]) h =
    bnd2 (aCall call md (.fn (.func 31) []) [x1] h) fun v1 h2 =>
    bnd (aExtract v1 0) fun v3 =>
    bnd (aExtract v1 1) fun v4 =>
    bnd (aExtract v1 2) fun v5 =>
    k .normal (st 58 [(2, x2), (4, x4), (5, x5), (7, v4), (8, v5)]) h2
  := by kernel_rfl
def J36_5_12 {β : Type} (call : CallF) (md : Bool) (k : Ex → List AV → Heap → Option β) (x53 x56 : AV) (h : Heap) : Option β :=
    bnd (aPick x53 x56 (.bool false)) fun v1 =>
    k .normal (st 58 [(0, v1)]) h
theorem j36_5_12 {β : Type} (call : CallF) (md : Bool) (k : Ex → List AV → Heap → Option β) (x2 x4 x5 x7 x8 x26 x27 x28 x29 x30 x31 x32 x33 x34 x35 x36 x37 x38 x39 x40 x41 x42 x43 x44 x45 x46 x47 x48 x49 x50 x51 x52 x53 x54 x55 x56 : AV) (h : Heap) :
    opsK C0 call md 36 (O36 5) ((O36 5).toList.drop 31) (st 58 [(2, x2), (4, x4), (5, x5), (7, x7), (8, x8), (26, x26), (27, x27), (28, x28), (29, x29), (30, x30), (31, x31), (32, x32), (33, x33), (34, x34), (35, x35), (36, x36), (37, x37), (38, x38), (39, x39), (40, x40), (41, x41), (42, x42), (43, x43), (44, x44), (45, x45), (46, x46), (47, x47), (48, x48), (49, x49), (50, x50), (51, x51), (52, x52), (53, x53), (54, x54), (55, x55), (56, x56)]) h (fun tm h => k .normal (clr (C0.keep 36 5) tm) h) = J36_5_12 call md k x53 x56 h := by kernel_rfl
def J36_5_11 {β : Type} (call : CallF) (md : Bool) (k : Ex → List AV → Heap → Option β) (x2 x53 : AV) (h : Heap) : Option β :=
    onG true x53 (
      bnd2 (aCall call md (.fn (.func 34) []) [x2] h) fun v3 h4 =>
      bnd (aBinC tab .eql 3 v3 (.int .i64 2) true) fun v5 =>
      J36_5_12 call md k x53 v5 h4) (
      J36_5_12 call md k x53 .skip h)
theorem g36_5_11 {β : Type} (call : CallF) (md : Bool) (kk : List AV → Heap → Option β) (x2 x4 x5 x7 x8 x26 x27 x28 x29 x30 x31 x32 x33 x34 x35 x36 x37 x38 x39 x40 x41 x42 x43 x44 x45 x46 x47 x48 x49 x50 x51 x52 x53 : AV) (h : Heap) :
    opsK C0 call md 36 (O36 5) (((O36 5).toList.drop 28).take 3) (st 58 [(2, x2), (4, x4), (5, x5), (7, x7), (8, x8), (26, x26), (27, x27), (28, x28), (29, x29), (30, x30), (31, x31), (32, x32), (33, x33), (34, x34), (35, x35), (36, x36), (37, x37), (38, x38), (39, x39), (40, x40), (41, x41), (42, x42), (43, x43), (44, x44), (45, x45), (46, x46), (47, x47), (48, x48), (49, x49), (50, x50), (51, x51), (52, x52), (53, x53)]) h kk =
    onG true x53 (
      bnd2 (aCall call md (.fn (.func 34) []) [x2] h) fun v6 h7 =>
      bnd (aBinC tab .eql 3 v6 (.int .i64 2) true) fun v8 =>
      kk (st 58 [(2, x2), (4, x4), (5, x5), (7, x7), (8, x8), (26, x26), (27, x27), (28, x28), (29, x29), (30, x30), (31, x31), (32, x32), (33, x33), (34, x34), (35, x35), (36, x36), (37, x37), (38, x38), (39, x39), (40, x40), (41, x41), (42, x42), (43, x43), (44, x44), (45, x45), (46, x46), (47, x47), (48, x48), (49, x49), (50, x50), (51, x51), (52, x52), (53, x53), (54, x2), (55, v6), (56, v8)]) h7) (
      kk (st 58 [(2, x2), (4, x4), (5, x5), (7, x7), (8, x8), (26, x26), (27, x27), (28, x28), (29, x29), (30, x30), (31, x31), (32, x32), (33, x33), (34, x34), (35, x35), (36, x36), (37, x37), (38, x38), (39, x39), (40, x40), (41, x41), (42, x42), (43, x43), (44, x44), (45, x45), (46, x46), (47, x47), (48, x48), (49, x49), (50, x50), (51, x51), (52, x52), (53, x53), (54, .skip), (55, .skip), (56, .skip)]) h)
  := by cases x53 with | bool b => (cases b <;> kernel_rfl) | _ => kernel_rfl
theorem j36_5_11 {β : Type} (call : CallF) (md : Bool) (k : Ex → List AV → Heap → Option β) (x2 x4 x5 x7 x8 x26 x27 x28 x29 x30 x31 x32 x33 x34 x35 x36 x37 x38 x39 x40 x41 x42 x43 x44 x45 x46 x47 x48 x49 x50 x51 x52 x53 : AV) (h : Heap) :
    opsK C0 call md 36 (O36 5) ((O36 5).toList.drop 28) (st 58 [(2, x2), (4, x4), (5, x5), (7, x7), (8, x8), (26, x26), (27, x27), (28, x28), (29, x29), (30, x30), (31, x31), (32, x32), (33, x33), (34, x34), (35, x35), (36, x36), (37, x37), (38, x38), (39, x39), (40, x40), (41, x41), (42, x42), (43, x43), (44, x44), (45, x45), (46, x46), (47, x47), (48, x48), (49, x49), (50, x50), (51, x51), (52, x52), (53, x53)]) h (fun tm h => k .normal (clr (C0.keep 36 5) tm) h) = J36_5_11 call md k x2 x53 h := by
  have e : ((O36 5).toList.drop 28) = ((O36 5).toList.drop 28).take 3 ++ (O36 5).toList.drop 31 := by kernel_rfl
  rw [show opsK C0 call md 36 (O36 5) ((O36 5).toList.drop 28) = opsK C0 call md 36 (O36 5) (((O36 5).toList.drop 28).take 3 ++ (O36 5).toList.drop 31) from congrArg _ e]
  rw [opsK_append, g36_5_11]
  simp only [j36_5_12]
  rfl
def J36_5_10 {β : Type} (call : CallF) (md : Bool) (k : Ex → List AV → Heap → Option β) (x2 x48 x51 : AV) (h : Heap) : Option β :=
    bnd (aPick x48 x51 (.bool false)) fun v9 =>
    J36_5_11 call md k x2 v9 h
theorem g36_5_10 {β : Type} (call : CallF) (md : Bool) (kk : List AV → Heap → Option β) (x2 x4 x5 x7 x8 x26 x27 x28 x29 x30 x31 x32 x33 x34 x35 x36 x37 x38 x39 x40 x41 x42 x43 x44 x45 x46 x47 x48 x49 x50 x51 : AV) (h : Heap) :
    opsK C0 call md 36 (O36 5) (((O36 5).toList.drop 26).take 2) (st 58 [(2, x2), (4, x4), (5, x5), (7, x7), (8, x8), (26, x26), (27, x27), (28, x28), (29, x29), (30, x30), (31, x31), (32, x32), (33, x33), (34, x34), (35, x35), (36, x36), (37, x37), (38, x38), (39, x39), (40, x40), (41, x41), (42, x42), (43, x43), (44, x44), (45, x45), (46, x46), (47, x47), (48, x48), (49, x49), (50, x50), (51, x51)]) h kk =
    bnd (aPick x48 x51 (.bool false)) fun v10 =>
    kk (st 58 [(2, x2), (4, x4), (5, x5), (7, x7), (8, x8), (26, x26), (27, x27), (28, x28), (29, x29), (30, x30), (31, x31), (32, x32), (33, x33), (34, x34), (35, x35), (36, x36), (37, x37), (38, x38), (39, x39), (40, x40), (41, x41), (42, x42), (43, x43), (44, x44), (45, x45), (46, x46), (47, x47), (48, x48), (49, x49), (50, x50), (51, x51), (52, v10), (53, v10)]) h
  := by kernel_rfl
theorem j36_5_10 {β : Type} (call : CallF) (md : Bool) (k : Ex → List AV → Heap → Option β) (x2 x4 x5 x7 x8 x26 x27 x28 x29 x30 x31 x32 x33 x34 x35 x36 x37 x38 x39 x40 x41 x42 x43 x44 x45 x46 x47 x48 x49 x50 x51 : AV) (h : Heap) :
    opsK C0 call md 36 (O36 5) ((O36 5).toList.drop 26) (st 58 [(2, x2), (4, x4), (5, x5), (7, x7), (8, x8), (26, x26), (27, x27), (28, x28), (29, x29), (30, x30), (31, x31), (32, x32), (33, x33), (34, x34), (35, x35), (36, x36), (37, x37), (38, x38), (39, x39), (40, x40), (41, x41), (42, x42), (43, x43), (44, x44), (45, x45), (46, x46), (47, x47), (48, x48), (49, x49), (50, x50), (51, x51)]) h (fun tm h => k .normal (clr (C0.keep 36 5) tm) h) = J36_5_10 call md k x2 x48 x51 h := by
  have e : ((O36 5).toList.drop 26) = ((O36 5).toList.drop 26).take 2 ++ (O36 5).toList.drop 28 := by kernel_rfl
  rw [show opsK C0 call md 36 (O36 5) ((O36 5).toList.drop 26) = opsK C0 call md 36 (O36 5) (((O36 5).toList.drop 26).take 2 ++ (O36 5).toList.drop 28) from congrArg _ e]
  rw [opsK_append, g36_5_10]
  simp only [j36_5_11]
  rfl
def J36_5_9 {β : Type} (call : CallF) (md : Bool) (k : Ex → List AV → Heap → Option β) (x2 x48 : AV) (h : Heap) : Option β :=
    onG true x48 (
      bnd2 (aCall call md (.fn (.func 37) []) [x2] h) fun v11 h12 =>
      bnd (aBinC tab .eql 3 v11 (.int .i64 1) true) fun v13 =>
      J36_5_10 call md k x2 x48 v13 h12) (
      J36_5_10 call md k x2 x48 .skip h)
theorem g36_5_9 {β : Type} (call : CallF) (md : Bool) (kk : List AV → Heap → Option β) (x2 x4 x5 x7 x8 x26 x27 x28 x29 x30 x31 x32 x33 x34 x35 x36 x37 x38 x39 x40 x41 x42 x43 x44 x45 x46 x47 x48 : AV) (h : Heap) :
    opsK C0 call md 36 (O36 5) (((O36 5).toList.drop 23).take 3) (st 58 [(2, x2), (4, x4), (5, x5), (7, x7), (8, x8), (26, x26), (27, x27), (28, x28), (29, x29), (30, x30), (31, x31), (32, x32), (33, x33), (34, x34), (35, x35), (36, x36), (37, x37), (38, x38), (39, x39), (40, x40), (41, x41), (42, x42), (43, x43), (44, x44), (45, x45), (46, x46), (47, x47), (48, x48)]) h kk =
    onG true x48 (
      bnd2 (aCall call md (.fn (.func 37) []) [x2] h) fun v14 h15 =>
      bnd (aBinC tab .eql 3 v14 (.int .i64 1) true) fun v16 =>
      kk (st 58 [(2, x2), (4, x4), (5, x5), (7, x7), (8, x8), (26, x26), (27, x27), (28, x28), (29, x29), (30, x30), (31, x31), (32, x32), (33, x33), (34, x34), (35, x35), (36, x36), (37, x37), (38, x38), (39, x39), (40, x40), (41, x41), (42, x42), (43, x43), (44, x44), (45, x45), (46, x46), (47, x47), (48, x48), (49, x2), (50, v14), (51, v16)]) h15) (
      kk (st 58 [(2, x2), (4, x4), (5, x5), (7, x7), (8, x8), (26, x26), (27, x27), (28, x28), (29, x29), (30, x30), (31, x31), (32, x32), (33, x33), (34, x34), (35, x35), (36, x36), (37, x37), (38, x38), (39, x39), (40, x40), (41, x41), (42, x42), (43, x43), (44, x44), (45, x45), (46, x46), (47, x47), (48, x48), (49, .skip), (50, .skip), (51, .skip)]) h)
  := by cases x48 with | bool b => (cases b <;> kernel_rfl) | _ => kernel_rfl
theorem j36_5_9 {β : Type} (call : CallF) (md : Bool) (k : Ex → List AV → Heap → Option β) (x2 x4 x5 x7 x8 x26 x27 x28 x29 x30 x31 x32 x33 x34 x35 x36 x37 x38 x39 x40 x41 x42 x43 x44 x45 x46 x47 x48 : AV) (h : Heap) :
    opsK C0 call md 36 (O36 5) ((O36 5).toList.drop 23) (st 58 [(2, x2), (4, x4), (5, x5), (7, x7), (8, x8), (26, x26), (27, x27), (28, x28), (29, x29), (30, x30), (31, x31), (32, x32), (33, x33), (34, x34), (35, x35), (36, x36), (37, x37), (38, x38), (39, x39), (40, x40), (41, x41), (42, x42), (43, x43), (44, x44), (45, x45), (46, x46), (47, x47), (48, x48)]) h (fun tm h => k .normal (clr (C0.keep 36 5) tm) h) = J36_5_9 call md k x2 x48 h := by
  have e : ((O36 5).toList.drop 23) = ((O36 5).toList.drop 23).take 3 ++ (O36 5).toList.drop 26 := by kernel_rfl
  rw [show opsK C0 call md 36 (O36 5) ((O36 5).toList.drop 23) = opsK C0 call md 36 (O36 5) (((O36 5).toList.drop 23).take 3 ++ (O36 5).toList.drop 26) from congrArg _ e]
  rw [opsK_append, g36_5_9]
  simp only [j36_5_10]
  rfl
def J36_5_8 {β : Type} (call : CallF) (md : Bool) (k : Ex → List AV → Heap → Option β) (x2 x41 x46 : AV) (h : Heap) : Option β :=
    bnd (aPick x41 x46 (.bool false)) fun v17 =>
    J36_5_9 call md k x2 v17 h
theorem g36_5_8 {β : Type} (call : CallF) (md : Bool) (kk : List AV → Heap → Option β) (x2 x4 x5 x7 x8 x26 x27 x28 x29 x30 x31 x32 x33 x34 x35 x36 x37 x38 x39 x40 x41 x42 x43 x44 x45 x46 : AV) (h : Heap) :
    opsK C0 call md 36 (O36 5) (((O36 5).toList.drop 21).take 2) (st 58 [(2, x2), (4, x4), (5, x5), (7, x7), (8, x8), (26, x26), (27, x27), (28, x28), (29, x29), (30, x30), (31, x31), (32, x32), (33, x33), (34, x34), (35, x35), (36, x36), (37, x37), (38, x38), (39, x39), (40, x40), (41, x41), (42, x42), (43, x43), (44, x44), (45, x45), (46, x46)]) h kk =
    bnd (aPick x41 x46 (.bool false)) fun v18 =>
    kk (st 58 [(2, x2), (4, x4), (5, x5), (7, x7), (8, x8), (26, x26), (27, x27), (28, x28), (29, x29), (30, x30), (31, x31), (32, x32), (33, x33), (34, x34), (35, x35), (36, x36), (37, x37), (38, x38), (39, x39), (40, x40), (41, x41), (42, x42), (43, x43), (44, x44), (45, x45), (46, x46), (47, v18), (48, v18)]) h
  := by kernel_rfl
theorem j36_5_8 {β : Type} (call : CallF) (md : Bool) (k : Ex → List AV → Heap → Option β) (x2 x4 x5 x7 x8 x26 x27 x28 x29 x30 x31 x32 x33 x34 x35 x36 x37 x38 x39 x40 x41 x42 x43 x44 x45 x46 : AV) (h : Heap) :
    opsK C0 call md 36 (O36 5) ((O36 5).toList.drop 21) (st 58 [(2, x2), (4, x4), (5, x5), (7, x7), (8, x8), (26, x26), (27, x27), (28, x28), (29, x29), (30, x30), (31, x31), (32, x32), (33, x33), (34, x34), (35, x35), (36, x36), (37, x37), (38, x38), (39, x39), (40, x40), (41, x41), (42, x42), (43, x43), (44, x44), (45, x45), (46, x46)]) h (fun tm h => k .normal (clr (C0.keep 36 5) tm) h) = J36_5_8 call md k x2 x41 x46 h := by
  have e : ((O36 5).toList.drop 21) = ((O36 5).toList.drop 21).take 2 ++ (O36 5).toList.drop 23 := by kernel_rfl
  rw [show opsK C0 call md 36 (O36 5) ((O36 5).toList.drop 21) = opsK C0 call md 36 (O36 5) (((O36 5).toList.drop 21).take 2 ++ (O36 5).toList.drop 23) from congrArg _ e]
  rw [opsK_append, g36_5_8]
  simp only [j36_5_9]
  rfl
def J36_5_7 {β : Type} (call : CallF) (md : Bool) (k : Ex → List AV → Heap → Option β) (x2 x7 x41 : AV) (h : Heap) : Option β :=
    onG true x41 (
      bnd (aIndexAddr tab 30 x7 (.int .i64 0)) fun v19 =>
      bnd (aLoad tab 22 v19 h) fun v20 =>
      bnd (aConv tab 22 9 v20 h) fun v21 =>
      bnd (aBinC tab .eql 9 v21 (liftC (Go.Value.string {data := #[104, 105]})) true) fun v22 =>
      J36_5_8 call md k x2 x41 v22 h) (
      J36_5_8 call md k x2 x41 .skip h)
theorem g36_5_7 {β : Type} (call : CallF) (md : Bool) (kk : List AV → Heap → Option β) (x2 x4 x5 x7 x8 x26 x27 x28 x29 x30 x31 x32 x33 x34 x35 x36 x37 x38 x39 x40 x41 : AV) (h : Heap) :
    opsK C0 call md 36 (O36 5) (((O36 5).toList.drop 16).take 5) (st 58 [(2, x2), (4, x4), (5, x5), (7, x7), (8, x8), (26, x26), (27, x27), (28, x28), (29, x29), (30, x30), (31, x31), (32, x32), (33, x33), (34, x34), (35, x35), (36, x36), (37, x37), (38, x38), (39, x39), (40, x40), (41, x41)]) h kk =
    onG true x41 (
      bnd (aIndexAddr tab 30 x7 (.int .i64 0)) fun v23 =>
      bnd (aLoad tab 22 v23 h) fun v24 =>
      bnd (aConv tab 22 9 v24 h) fun v25 =>
      bnd (aBinC tab .eql 9 v25 (liftC (Go.Value.string {data := #[104, 105]})) true) fun v26 =>
      kk (st 58 [(2, x2), (4, x4), (5, x5), (7, x7), (8, x8), (26, x26), (27, x27), (28, x28), (29, x29), (30, x30), (31, x31), (32, x32), (33, x33), (34, x34), (35, x35), (36, x36), (37, x37), (38, x38), (39, x39), (40, x40), (41, x41), (42, x7), (43, v23), (44, v24), (45, v25), (46, v26)]) h) (
      kk (st 58 [(2, x2), (4, x4), (5, x5), (7, x7), (8, x8), (26, x26), (27, x27), (28, x28), (29, x29), (30, x30), (31, x31), (32, x32), (33, x33), (34, x34), (35, x35), (36, x36), (37, x37), (38, x38), (39, x39), (40, x40), (41, x41), (42, .skip), (43, .skip), (44, .skip), (45, .skip), (46, .skip)]) h)
  := by cases x41 with | bool b => (cases b <;> kernel_rfl) | _ => kernel_rfl
theorem j36_5_7 {β : Type} (call : CallF) (md : Bool) (k : Ex → List AV → Heap → Option β) (x2 x4 x5 x7 x8 x26 x27 x28 x29 x30 x31 x32 x33 x34 x35 x36 x37 x38 x39 x40 x41 : AV) (h : Heap) :
    opsK C0 call md 36 (O36 5) ((O36 5).toList.drop 16) (st 58 [(2, x2), (4, x4), (5, x5), (7, x7), (8, x8), (26, x26), (27, x27), (28, x28), (29, x29), (30, x30), (31, x31), (32, x32), (33, x33), (34, x34), (35, x35), (36, x36), (37, x37), (38, x38), (39, x39), (40, x40), (41, x41)]) h (fun tm h => k .normal (clr (C0.keep 36 5) tm) h) = J36_5_7 call md k x2 x7 x41 h := by
  have e : ((O36 5).toList.drop 16) = ((O36 5).toList.drop 16).take 5 ++ (O36 5).toList.drop 21 := by kernel_rfl
  rw [show opsK C0 call md 36 (O36 5) ((O36 5).toList.drop 16) = opsK C0 call md 36 (O36 5) (((O36 5).toList.drop 16).take 5 ++ (O36 5).toList.drop 21) from congrArg _ e]
  rw [opsK_append, g36_5_7]
  simp only [j36_5_8]
  rfl
def J36_5_6 {β : Type} (call : CallF) (md : Bool) (k : Ex → List AV → Heap → Option β) (x2 x7 x36 x39 : AV) (h : Heap) : Option β :=
    bnd (aPick x36 x39 (.bool false)) fun v27 =>
    J36_5_7 call md k x2 x7 v27 h
theorem g36_5_6 {β : Type} (call : CallF) (md : Bool) (kk : List AV → Heap → Option β) (x2 x4 x5 x7 x8 x26 x27 x28 x29 x30 x31 x32 x33 x34 x35 x36 x37 x38 x39 : AV) (h : Heap) :
    opsK C0 call md 36 (O36 5) (((O36 5).toList.drop 14).take 2) (st 58 [(2, x2), (4, x4), (5, x5), (7, x7), (8, x8), (26, x26), (27, x27), (28, x28), (29, x29), (30, x30), (31, x31), (32, x32), (33, x33), (34, x34), (35, x35), (36, x36), (37, x37), (38, x38), (39, x39)]) h kk =
    bnd (aPick x36 x39 (.bool false)) fun v28 =>
    kk (st 58 [(2, x2), (4, x4), (5, x5), (7, x7), (8, x8), (26, x26), (27, x27), (28, x28), (29, x29), (30, x30), (31, x31), (32, x32), (33, x33), (34, x34), (35, x35), (36, x36), (37, x37), (38, x38), (39, x39), (40, v28), (41, v28)]) h
  := by kernel_rfl
theorem j36_5_6 {β : Type} (call : CallF) (md : Bool) (k : Ex → List AV → Heap → Option β) (x2 x4 x5 x7 x8 x26 x27 x28 x29 x30 x31 x32 x33 x34 x35 x36 x37 x38 x39 : AV) (h : Heap) :
    opsK C0 call md 36 (O36 5) ((O36 5).toList.drop 14) (st 58 [(2, x2), (4, x4), (5, x5), (7, x7), (8, x8), (26, x26), (27, x27), (28, x28), (29, x29), (30, x30), (31, x31), (32, x32), (33, x33), (34, x34), (35, x35), (36, x36), (37, x37), (38, x38), (39, x39)]) h (fun tm h => k .normal (clr (C0.keep 36 5) tm) h) = J36_5_6 call md k x2 x7 x36 x39 h := by
  have e : ((O36 5).toList.drop 14) = ((O36 5).toList.drop 14).take 2 ++ (O36 5).toList.drop 16 := by kernel_rfl
  rw [show opsK C0 call md 36 (O36 5) ((O36 5).toList.drop 14) = opsK C0 call md 36 (O36 5) (((O36 5).toList.drop 14).take 2 ++ (O36 5).toList.drop 16) from congrArg _ e]
  rw [opsK_append, g36_5_6]
  simp only [j36_5_7]
  rfl
def J36_5_5 {β : Type} (call : CallF) (md : Bool) (k : Ex → List AV → Heap → Option β) (x2 x7 x36 : AV) (h : Heap) : Option β :=
    onG true x36 (
      bnd (aLen tab 30 x7) fun v29 =>
      bnd (aBinC tab .eql 3 v29 (.int .i64 1) true) fun v30 =>
      J36_5_6 call md k x2 x7 x36 v30 h) (
      J36_5_6 call md k x2 x7 x36 .skip h)
theorem g36_5_5 {β : Type} (call : CallF) (md : Bool) (kk : List AV → Heap → Option β) (x2 x4 x5 x7 x8 x26 x27 x28 x29 x30 x31 x32 x33 x34 x35 x36 : AV) (h : Heap) :
    opsK C0 call md 36 (O36 5) (((O36 5).toList.drop 11).take 3) (st 58 [(2, x2), (4, x4), (5, x5), (7, x7), (8, x8), (26, x26), (27, x27), (28, x28), (29, x29), (30, x30), (31, x31), (32, x32), (33, x33), (34, x34), (35, x35), (36, x36)]) h kk =
    onG true x36 (
      bnd (aLen tab 30 x7) fun v31 =>
      bnd (aBinC tab .eql 3 v31 (.int .i64 1) true) fun v32 =>
      kk (st 58 [(2, x2), (4, x4), (5, x5), (7, x7), (8, x8), (26, x26), (27, x27), (28, x28), (29, x29), (30, x30), (31, x31), (32, x32), (33, x33), (34, x34), (35, x35), (36, x36), (37, x7), (38, v31), (39, v32)]) h) (
      kk (st 58 [(2, x2), (4, x4), (5, x5), (7, x7), (8, x8), (26, x26), (27, x27), (28, x28), (29, x29), (30, x30), (31, x31), (32, x32), (33, x33), (34, x34), (35, x35), (36, x36), (37, .skip), (38, .skip), (39, .skip)]) h)
  := by cases x36 with | bool b => (cases b <;> kernel_rfl) | _ => kernel_rfl
theorem j36_5_5 {β : Type} (call : CallF) (md : Bool) (k : Ex → List AV → Heap → Option β) (x2 x4 x5 x7 x8 x26 x27 x28 x29 x30 x31 x32 x33 x34 x35 x36 : AV) (h : Heap) :
    opsK C0 call md 36 (O36 5) ((O36 5).toList.drop 11) (st 58 [(2, x2), (4, x4), (5, x5), (7, x7), (8, x8), (26, x26), (27, x27), (28, x28), (29, x29), (30, x30), (31, x31), (32, x32), (33, x33), (34, x34), (35, x35), (36, x36)]) h (fun tm h => k .normal (clr (C0.keep 36 5) tm) h) = J36_5_5 call md k x2 x7 x36 h := by
  have e : ((O36 5).toList.drop 11) = ((O36 5).toList.drop 11).take 3 ++ (O36 5).toList.drop 14 := by kernel_rfl
  rw [show opsK C0 call md 36 (O36 5) ((O36 5).toList.drop 11) = opsK C0 call md 36 (O36 5) (((O36 5).toList.drop 11).take 3 ++ (O36 5).toList.drop 14) from congrArg _ e]
  rw [opsK_append, g36_5_5]
  simp only [j36_5_6]
  rfl
def J36_5_4 {β : Type} (call : CallF) (md : Bool) (k : Ex → List AV → Heap → Option β) (x2 x7 x32 x34 : AV) (h : Heap) : Option β :=
    bnd (aPick x32 x34 (.bool false)) fun v33 =>
    J36_5_5 call md k x2 x7 v33 h
theorem g36_5_4 {β : Type} (call : CallF) (md : Bool) (kk : List AV → Heap → Option β) (x2 x4 x5 x7 x8 x26 x27 x28 x29 x30 x31 x32 x33 x34 : AV) (h : Heap) :
    opsK C0 call md 36 (O36 5) (((O36 5).toList.drop 9).take 2) (st 58 [(2, x2), (4, x4), (5, x5), (7, x7), (8, x8), (26, x26), (27, x27), (28, x28), (29, x29), (30, x30), (31, x31), (32, x32), (33, x33), (34, x34)]) h kk =
    bnd (aPick x32 x34 (.bool false)) fun v34 =>
    kk (st 58 [(2, x2), (4, x4), (5, x5), (7, x7), (8, x8), (26, x26), (27, x27), (28, x28), (29, x29), (30, x30), (31, x31), (32, x32), (33, x33), (34, x34), (35, v34), (36, v34)]) h
  := by kernel_rfl
theorem j36_5_4 {β : Type} (call : CallF) (md : Bool) (k : Ex → List AV → Heap → Option β) (x2 x4 x5 x7 x8 x26 x27 x28 x29 x30 x31 x32 x33 x34 : AV) (h : Heap) :
    opsK C0 call md 36 (O36 5) ((O36 5).toList.drop 9) (st 58 [(2, x2), (4, x4), (5, x5), (7, x7), (8, x8), (26, x26), (27, x27), (28, x28), (29, x29), (30, x30), (31, x31), (32, x32), (33, x33), (34, x34)]) h (fun tm h => k .normal (clr (C0.keep 36 5) tm) h) = J36_5_4 call md k x2 x7 x32 x34 h := by
  have e : ((O36 5).toList.drop 9) = ((O36 5).toList.drop 9).take 2 ++ (O36 5).toList.drop 11 := by kernel_rfl
  rw [show opsK C0 call md 36 (O36 5) ((O36 5).toList.drop 9) = opsK C0 call md 36 (O36 5) (((O36 5).toList.drop 9).take 2 ++ (O36 5).toList.drop 11) from congrArg _ e]
  rw [opsK_append, g36_5_4]
  simp only [j36_5_5]
  rfl
def J36_5_3 {β : Type} (call : CallF) (md : Bool) (k : Ex → List AV → Heap → Option β) (x2 x7 x8 x32 : AV) (h : Heap) : Option β :=
    onG true x32 (
      bnd (aBinC tab .eql 27 x8 (.int .i64 0) true) fun v35 =>
      J36_5_4 call md k x2 x7 x32 v35 h) (
      J36_5_4 call md k x2 x7 x32 .skip h)
theorem g36_5_3 {β : Type} (call : CallF) (md : Bool) (kk : List AV → Heap → Option β) (x2 x4 x5 x7 x8 x26 x27 x28 x29 x30 x31 x32 : AV) (h : Heap) :
    opsK C0 call md 36 (O36 5) (((O36 5).toList.drop 7).take 2) (st 58 [(2, x2), (4, x4), (5, x5), (7, x7), (8, x8), (26, x26), (27, x27), (28, x28), (29, x29), (30, x30), (31, x31), (32, x32)]) h kk =
    onG true x32 (
      bnd (aBinC tab .eql 27 x8 (.int .i64 0) true) fun v36 =>
      kk (st 58 [(2, x2), (4, x4), (5, x5), (7, x7), (8, x8), (26, x26), (27, x27), (28, x28), (29, x29), (30, x30), (31, x31), (32, x32), (33, x8), (34, v36)]) h) (
      kk (st 58 [(2, x2), (4, x4), (5, x5), (7, x7), (8, x8), (26, x26), (27, x27), (28, x28), (29, x29), (30, x30), (31, x31), (32, x32), (33, .skip), (34, .skip)]) h)
  := by cases x32 with | bool b => (cases b <;> kernel_rfl) | _ => kernel_rfl
theorem j36_5_3 {β : Type} (call : CallF) (md : Bool) (k : Ex → List AV → Heap → Option β) (x2 x4 x5 x7 x8 x26 x27 x28 x29 x30 x31 x32 : AV) (h : Heap) :
    opsK C0 call md 36 (O36 5) ((O36 5).toList.drop 7) (st 58 [(2, x2), (4, x4), (5, x5), (7, x7), (8, x8), (26, x26), (27, x27), (28, x28), (29, x29), (30, x30), (31, x31), (32, x32)]) h (fun tm h => k .normal (clr (C0.keep 36 5) tm) h) = J36_5_3 call md k x2 x7 x8 x32 h := by
  have e : ((O36 5).toList.drop 7) = ((O36 5).toList.drop 7).take 2 ++ (O36 5).toList.drop 9 := by kernel_rfl
  rw [show opsK C0 call md 36 (O36 5) ((O36 5).toList.drop 7) = opsK C0 call md 36 (O36 5) (((O36 5).toList.drop 7).take 2 ++ (O36 5).toList.drop 9) from congrArg _ e]
  rw [opsK_append, g36_5_3]
  simp only [j36_5_4]
  rfl
def J36_5_2 {β : Type} (call : CallF) (md : Bool) (k : Ex → List AV → Heap → Option β) (x2 x7 x8 x28 x30 : AV) (h : Heap) : Option β :=
    bnd (aPick x28 x30 (.bool false)) fun v37 =>
    J36_5_3 call md k x2 x7 x8 v37 h
theorem g36_5_2 {β : Type} (call : CallF) (md : Bool) (kk : List AV → Heap → Option β) (x2 x4 x5 x7 x8 x26 x27 x28 x29 x30 : AV) (h : Heap) :
    opsK C0 call md 36 (O36 5) (((O36 5).toList.drop 5).take 2) (st 58 [(2, x2), (4, x4), (5, x5), (7, x7), (8, x8), (26, x26), (27, x27), (28, x28), (29, x29), (30, x30)]) h kk =
    bnd (aPick x28 x30 (.bool false)) fun v38 =>
    kk (st 58 [(2, x2), (4, x4), (5, x5), (7, x7), (8, x8), (26, x26), (27, x27), (28, x28), (29, x29), (30, x30), (31, v38), (32, v38)]) h
  := by kernel_rfl
theorem j36_5_2 {β : Type} (call : CallF) (md : Bool) (k : Ex → List AV → Heap → Option β) (x2 x4 x5 x7 x8 x26 x27 x28 x29 x30 : AV) (h : Heap) :
    opsK C0 call md 36 (O36 5) ((O36 5).toList.drop 5) (st 58 [(2, x2), (4, x4), (5, x5), (7, x7), (8, x8), (26, x26), (27, x27), (28, x28), (29, x29), (30, x30)]) h (fun tm h => k .normal (clr (C0.keep 36 5) tm) h) = J36_5_2 call md k x2 x7 x8 x28 x30 h := by
  have e : ((O36 5).toList.drop 5) = ((O36 5).toList.drop 5).take 2 ++ (O36 5).toList.drop 7 := by kernel_rfl
  rw [show opsK C0 call md 36 (O36 5) ((O36 5).toList.drop 5) = opsK C0 call md 36 (O36 5) (((O36 5).toList.drop 5).take 2 ++ (O36 5).toList.drop 7) from congrArg _ e]
  rw [opsK_append, g36_5_2]
  simp only [j36_5_3]
  rfl
def J36_5_1 {β : Type} (call : CallF) (md : Bool) (k : Ex → List AV → Heap → Option β) (x2 x5 x7 x8 x28 : AV) (h : Heap) : Option β :=
    onG true x28 (
      bnd (aBinC tab .eql 27 x5 (.int .i64 0) true) fun v39 =>
      J36_5_2 call md k x2 x7 x8 x28 v39 h) (
      J36_5_2 call md k x2 x7 x8 x28 .skip h)
theorem g36_5_1 {β : Type} (call : CallF) (md : Bool) (kk : List AV → Heap → Option β) (x2 x4 x5 x7 x8 x26 x27 x28 : AV) (h : Heap) :
    opsK C0 call md 36 (O36 5) (((O36 5).toList.drop 3).take 2) (st 58 [(2, x2), (4, x4), (5, x5), (7, x7), (8, x8), (26, x26), (27, x27), (28, x28)]) h kk =
    onG true x28 (
      bnd (aBinC tab .eql 27 x5 (.int .i64 0) true) fun v40 =>
      kk (st 58 [(2, x2), (4, x4), (5, x5), (7, x7), (8, x8), (26, x26), (27, x27), (28, x28), (29, x5), (30, v40)]) h) (
      kk (st 58 [(2, x2), (4, x4), (5, x5), (7, x7), (8, x8), (26, x26), (27, x27), (28, x28), (29, .skip), (30, .skip)]) h)
  := by cases x28 with | bool b => (cases b <;> kernel_rfl) | _ => kernel_rfl
theorem j36_5_1 {β : Type} (call : CallF) (md : Bool) (k : Ex → List AV → Heap → Option β) (x2 x4 x5 x7 x8 x26 x27 x28 : AV) (h : Heap) :
    opsK C0 call md 36 (O36 5) ((O36 5).toList.drop 3) (st 58 [(2, x2), (4, x4), (5, x5), (7, x7), (8, x8), (26, x26), (27, x27), (28, x28)]) h (fun tm h => k .normal (clr (C0.keep 36 5) tm) h) = J36_5_1 call md k x2 x5 x7 x8 x28 h := by
  have e : ((O36 5).toList.drop 3) = ((O36 5).toList.drop 3).take 2 ++ (O36 5).toList.drop 5 := by kernel_rfl
  rw [show opsK C0 call md 36 (O36 5) ((O36 5).toList.drop 3) = opsK C0 call md 36 (O36 5) (((O36 5).toList.drop 3).take 2 ++ (O36 5).toList.drop 5) from congrArg _ e]
  rw [opsK_append, g36_5_1]
  simp only [j36_5_2]
  rfl
def J36_5_0 {β : Type} (call : CallF) (md : Bool) (k : Ex → List AV → Heap → Option β) (x2 x4 x5 x7 x8 : AV) (h : Heap) : Option β :=
    bnd (aBinC tab .eql 27 x4 (.int .i64 0) true) fun v41 =>
    J36_5_1 call md k x2 x5 x7 x8 v41 h
theorem g36_5_0 {β : Type} (call : CallF) (md : Bool) (kk : List AV → Heap → Option β) (x2 x4 x5 x7 x8 : AV) (h : Heap) :
    opsK C0 call md 36 (O36 5) ((O36 5).toList.take 3) (st 58 [(2, x2), (4, x4), (5, x5), (7, x7), (8, x8)]) h kk =
    bnd (aBinC tab .eql 27 x4 (.int .i64 0) true) fun v42 =>
    kk (st 58 [(2, x2), (4, x4), (5, x5), (7, x7), (8, x8), (26, x4), (27, v42), (28, v42)]) h
  := by kernel_rfl
theorem j36_5_0 {β : Type} (call : CallF) (md : Bool) (k : Ex → List AV → Heap → Option β) (x2 x4 x5 x7 x8 : AV) (h : Heap) :
    opsK C0 call md 36 (O36 5) (O36 5).toList (st 58 [(2, x2), (4, x4), (5, x5), (7, x7), (8, x8)]) h (fun tm h => k .normal (clr (C0.keep 36 5) tm) h) = J36_5_0 call md k x2 x4 x5 x7 x8 h := by
  have e : (O36 5).toList = (O36 5).toList.take 3 ++ (O36 5).toList.drop 3 := by kernel_rfl
  rw [show opsK C0 call md 36 (O36 5) (O36 5).toList = opsK C0 call md 36 (O36 5) ((O36 5).toList.take 3 ++ (O36 5).toList.drop 3) from congrArg _ e]
  rw [opsK_append, g36_5_0]
  simp only [j36_5_1]
  rfl
theorem r36_5 {β : Type} (call : CallF) (md : Bool) (n : Nat) (k : Ex → List AV → Heap → Option β) (x2 x4 x5 x7 x8 : AV) (h : Heap) :
    runK C0 call md 36 n (.region 5 (O36 5) false) k (st 58 [(2, x2), (4, x4), (5, x5), (7, x7), (8, x8)]) h = J36_5_0 call md k x2 x4 x5 x7 x8 h := (runK_region C0 call md 36 n 5 (O36 5) k (st 58 [(2, x2), (4, x4), (5, x5), (7, x7), (8, x8)]) h).trans (j36_5_0 call md k x2 x4 x5 x7 x8 h)
end Go.Ax

set_option linter.unusedVariables false
namespace Go.Ax
open Go Go.Proofs
theorem e8 : E0 8 = some ⟨65, [4], bodyOf Try.f8⟩ := by kernel_rfl
end Go.Ax

namespace Go.Ax
open Go Go.Proofs
theorem Lsk.fresh {S : Obs} {h h' : Heap} {q p r : Nat} {w : Wl} (L : Lsk S h q p r w) (k : Keep (From h.length) h h') : Lsk S h' q p r w :=
  ⟨L.hq, by rw [k.2 q (Nat.not_le.2 (List.getElem?_eq_some_iff.1 L.var).1)]; exact L.var, L.dsk.fresh k⟩
theorem Lsk.lt {S : Obs} {h : Heap} {q p r : Nat} {w : Wl} (L : Lsk S h q p r w) : q < h.length := (List.getElem?_eq_some_iff.1 L.var).1
theorem Lsk.up {S : Obs} {h : Heap} {q p r : Nat} {w : Wl} (L : Lsk S h q p r w) (up : Up S h) : Up (fun i => S i ∧ i ≠ q) h := fun i hi => ⟨up i hi, by have := L.lt; omega⟩
theorem calm_sane {l : List (List UInt8)} (h : l.length ≤ 1024) : Sane (Calm l) := ⟨fun _ => rfl, by simp [Calm], by simp [Calm], h⟩
theorem ext32 (x y z : AV) : aExtract (.tuple [x, y, z]) 2 = some z := rfl
theorem answers4_ok (h : Heap) (k : Nat) (hk : 10500 < k) : ∃ h', exFn C0 E0 (k + 1) false 36 [] h = some (.bool true, h') ∧ Keep (From h.length) h h' := by
  obtain ⟨k, rfl⟩ : ∃ j, k = j + 3 := ⟨k - 3, by omega⟩
  have up := Up.fresh h
  obtain ⟨p, r, h1, n1, D1, k1⟩ := new_ok 40 h false (k + 2)
  have up1 := up.keep k1
  obtain ⟨o1, L1⟩ := open_blank 40 (by omega) (by omega)
  have dn : Dk.new 40 = Calm (List.replicate 40 zs) := rfl
  rw [dn] at D1
  obtain ⟨h2, l, x, g1, k2, -, a2, -⟩ := open_ok D1 up1 (by simp [Calm]) (calm_sane (by simp)) (k + 2) (by omega)
  rw [o1] at g1 a2
  obtain ⟨q, rfl, hq1, hq2, W1, -⟩ := a2 rfl
  have k3 : Keep (From h2.length) h2 (h2 ++ [.dead]) := Keep.app h2 _ (Up.fresh h2)
  have W1' := W1.fresh k3
  have up3 := (up1.keep k2).keep k3
  have hn1 : nOf hi = 2 := rfl
  obtain ⟨p1, L2⟩ := L1.append (b := hi) (by decide) (by rw [hn1]; simp; decide)
  obtain ⟨h4, g2, W2, k4⟩ := append_ok W1' up3 (by simp [Calm]) (by decide) (by decide) (calm_sane (by simp)) hi_bs (by decide) (k + 2) (by omega)
  rw [p1] at g2 W2
  have up4 := up3.keep k4
  have o2 := L2.open
  have ll := L2.hi
  have ll2 := L2.lo
  have hlen : (laid ((List.replicate 40 zs).set 1 (pad (superOf 1))) (fromOf 40 1) ((1 : Nat) : Int) hi).length = 40 := by rw [laid_length]; simp
  generalize laid ((List.replicate 40 zs).set 1 (pad (superOf 1))) (fromOf 40 1) ((1 : Nat) : Int) hi = l2 at *
  obtain ⟨h5, l', y, g3, k5, D5, a5, -⟩ := open_ok W2.dsk (W2.up up4) (by exact ll2) (calm_sane ll) (k + 2) (by omega)
  rw [o2] at g3 a5 D5
  obtain ⟨q', rfl, -, -, -, a6⟩ := a5 rfl
  have hv : h5[q]? = _ := (k5.2 q (fun h => h.2 rfl)).trans W2.var
  obtain ⟨v, hv1, bv⟩ := a6.rw.idx (i := 0) rfl
  rw [show ((0 : Nat) : Int) = 0 from rfl] at hv1
  have W5 : Lsk (From h.length) h5 q p r ⟨Calm l2, 1, ((fromOf 40 1 + nOf hi : Nat) : Int), false⟩ := ⟨W2.hq, hv, D5⟩
  have us := used_ok W5 (by show 2 ≤ l2.length; omega) (by show 1 < 2 ^ 62; decide) (by show (0 : Int) ≤ ((fromOf 40 1 + nOf hi : Nat) : Int); decide) (by show ((fromOf 40 1 + nOf hi : Nat) : Int) < 2 ^ 62; decide) k
  have gs := gen_ok W5.var (k + 2)
  have hl40 : l2.length = 40 := hlen
  rw [show (Calm l2).lasts.length = 40 from hl40] at us
  have kk := (((k1.trans k2).trans (k3.up (up1.keep k2))).trans k4).trans (k5.mono fun i hi => hi.1)
  have c1 : decide ((((1 : Nat) : Int)) = 1) = true := by decide
  have c2 : decide ((((fromOf 40 1 + nOf hi : Nat) : Int)) - (fromOf 40 1 : Nat) = 2) = true := by decide
  have c3 : decide ((0 : Int) = 0) = true := by decide
  have c4 : decide (((([] : List (List UInt8)) ++ [hi]).length : Int) = 1) = true := by decide
  have c5 : (hi == hi) = true := by decide
  refine ⟨h5, exFn_of e36 ?_, kk⟩
  rw [fnK, show (([] : List AV) ++ List.replicate (58 - ([] : List AV).length) AV.undef) = st 58 [] from rfl, s36]
  simp -implicitDefEqProofs only [↓runK_seq, runK_seq, ↓runK_cond, runK_cond, ↓runK_block, runK_block, ↓runK_loop, runK_loop, ↓runK_skip, runK_skip, ↓runK_ret, runK_ret, ↓runK_exit, runK_exit, ↓seqE_n, seqE_n, ↓seqE_e, seqE_e, ↓seqE_r, seqE_r, ↓blkE_n, blkE_n, ↓blkE_e, blkE_e, ↓blkE_r, blkE_r, ↓retK_n, retK_n, ↓retK_r, retK_r, ↓aCall_fn, aCall_fn, ↓bnd_s, bnd_s, ↓bnd2_s, bnd2_s, ↓onB_t, onB_t, ↓onB_f, onB_f, ↓onG_tt, onG_tt, ↓onG_tf, onG_tf, ↓onG_ft, onG_ft, ↓onG_ff, onG_ff, ↓onG_s, onG_s, ↓onT_t, onT_t, ↓aPick_t, aPick_t, ↓aPick_f, aPick_f, decide_true, decide_false, st_tmp, results1, results2, List.lookup_cons, List.lookup_nil, Nat.reduceBEq, Bool.false_eq_true, ↓reduceIte, BEq.rfl, Nat.reduceLT, Option.getD_some, Option.getD_none, ↓r36_0, r36_0, ↓r36_1, r36_1, ↓r36_2, r36_2, ↓r36_3, r36_3, ↓r36_4, r36_4, ↓r36_5, r36_5, J36_5_0, J36_5_1, J36_5_2, J36_5_3, J36_5_4, J36_5_5, J36_5_6, J36_5_7, J36_5_8, J36_5_9, J36_5_10, J36_5_11, J36_5_12, n1, g1, ext30, ext31, ext32, rowlit_hi, conv_hi, frz_hi, g2, g3, bin_eql, c3, a6.rw.len, c4, hv1, load22, bv.str, lift_hi, str_eql, str_hi, c5, gs, c1, us, c2]
end Go.Ax

set_option linter.unusedVariables false
namespace Go.Ax
open Go Go.Proofs
noncomputable def O7 (i : Nat) : Array Oper := opsOf i (bodyOf Try.f7)
noncomputable def B7_1 : Code := (.seq (.seq (.region 8 (O7 8) false) (.cond (Go.Operand.tmp 43) .skip (.exit 0))) (.seq (.block 1 (.seq (.region 10 (O7 10) false) (.cond (Go.Operand.tmp 49) (.seq (.region 11 (O7 11) false) .ret) .skip))) (.region 9 (O7 9) false)))
theorem s7 : bodyOf Try.f7 = (.seq (.region 0 (O7 0) false) (.seq (.region 1 (O7 1) false) (.seq (.region 2 (O7 2) false) (.seq (.region 3 (O7 3) false) (.seq (.region 4 (O7 4) false) (.seq (.region 5 (O7 5) false) (.seq (.region 6 (O7 6) false) (.seq (.seq (.region 7 (O7 7) false) (.block 0 (.loop B7_1))) (.seq (.region 12 (O7 12) false) (.seq (.region 13 (O7 13) false) (.seq (.region 14 (O7 14) false) (.seq (.region 15 (O7 15) false) (.seq (.seq (.region 16 (O7 16) false) (.cond (Go.Operand.tmp 59) (.region 17 (O7 17) false) .skip)) (.seq (.region 18 (O7 18) false) .ret)))))))))))))) := by kernel_rfl
theorem e7 : E0 7 = some ⟨100, [4], bodyOf Try.f7⟩ := by kernel_rfl
theorem r7_0 {β : Type} (call : CallF) (md : Bool) (n : Nat) (k : Ex → List AV → Heap → Option β) (x0 x1 : AV) (h : Heap) :
    runK C0 call md 7 n (.region 0 (O7 0) false) k (st 100 [(0, x0), (1, x1)]) h =
    k .normal (st 100 [(0, x0), (1, x1)]) h
  := by kernel_rfl
theorem r7_1 {β : Type} (call : CallF) (md : Bool) (n : Nat) (k : Ex → List AV → Heap → Option β) (x0 x1 : AV) (h : Heap) :
    runK C0 call md 7 n (.region 1 (O7 1) false) k (st 100 [(0, x0), (1, x1)]) h =
    bnd (aBinC tab .rem 5 x0 (.int .u8 60) true) fun v1 =>
    bnd (aConv tab 5 3 v1 h) fun v2 =>
    bnd (aBinC tab .add 3 v2 (.int .i64 8) true) fun v3 =>
    k .normal (st 100 [(1, x1), (5, v3)]) h
  := by kernel_rfl
theorem r7_2 {β : Type} (call : CallF) (md : Bool) (n : Nat) (k : Ex → List AV → Heap → Option β) (x1 x5 : AV) (h : Heap) :
    runK C0 call md 7 n (.region 2 (O7 2) false) k (st 100 [(1, x1), (5, x5)]) h =
    bnd2 (aCall call md (.fn (.func 13) []) [x5] h) fun v1 h2 =>
    k .normal (st 100 [(1, x1), (5, x5), (6, v1)]) h2
  := by kernel_rfl
theorem r7_3 {β : Type} (call : CallF) (md : Bool) (n : Nat) (k : Ex → List AV → Heap → Option β) (x1 x5 x6 : AV) (h : Heap) :
    runK C0 call md 7 n (.region 3 (O7 3) false) k (st 100 [(1, x1), (5, x5), (6, x6)]) h =
    bnd2 (aCall call md (.fn (.func 31) []) [x6] h) fun v1 h2 =>
    bnd (aExtract v1 0) fun v3 =>
    bnd (aExtract v1 1) fun v4 =>
    bnd (aExtract v1 2) fun v5 =>
    k .normal (st 100 [(1, x1), (5, x5), (7, v3), (9, v5)]) h2
  := by kernel_rfl
theorem r7_4 {β : Type} (call : CallF) (md : Bool) (n : Nat) (k : Ex → List AV → Heap → Option β) (x1 x5 x7 x9 : AV) (h : Heap) :
    runK C0 call md 7 n (.region 4 (O7 4) false) k (st 100 [(1, x1), (5, x5), (7, x7), (9, x9)]) h =
    bnd (aConv tab 5 3 x1 h) fun v1 =>
    bnd (aZeroSl tab 22 v1 v1) fun v2 =>
    k .normal (st 100 [(5, x5), (7, x7), (9, x9), (10, v2)]) h
  := by kernel_rfl
theorem r7_5 {β : Type} (call : CallF) (md : Bool) (n : Nat) (k : Ex → List AV → Heap → Option β) (x5 x7 x9 x10 : AV) (h : Heap) :
    runK C0 call md 7 n (.region 5 (O7 5) false) k (st 100 [(5, x5), (7, x7), (9, x9), (10, x10)]) h =
    bnd (aBinC tab .sub 3 x5 (.int .i64 2) true) fun v1 =>
    bnd (aBinC tab .quo 3 v1 (.int .i64 2) true) fun v2 =>
    k .normal (st 100 [(7, x7), (9, x9), (10, x10), (11, v2)]) h
  := by kernel_rfl
theorem r7_6 {β : Type} (call : CallF) (md : Bool) (n : Nat) (k : Ex → List AV → Heap → Option β) (x7 x9 x10 x11 : AV) (h : Heap) :
    runK C0 call md 7 n (.region 6 (O7 6) false) k (st 100 [(7, x7), (9, x9), (10, x10), (11, x11)]) h =
    bnd2 (aCall call md (.fn (.func 32) []) [(.int .i64 1), x10] h) fun v1 h2 =>
    bnd (aLen tab 30 v1) fun v3 =>
    bnd (aBinC tab .quo 3 x11 v3 false) fun v4 =>
    k .normal (st 100 [(7, x7), (9, x9), (10, x10), (12, v4)]) h2
  := by kernel_rfl
theorem r7_7 {β : Type} (call : CallF) (md : Bool) (n : Nat) (k : Ex → List AV → Heap → Option β) (x7 x9 x10 x12 : AV) (h : Heap) :
    runK C0 call md 7 n (.region 7 (O7 7) false) k (st 100 [(7, x7), (9, x9), (10, x10), (12, x12)]) h =
    k .normal (st 100 [(7, x7), (9, x9), (10, x10), (12, x12), (13, (.int .i64 0))]) h
  := by kernel_rfl
theorem r7_8 {β : Type} (call : CallF) (md : Bool) (n : Nat) (k : Ex → List AV → Heap → Option β) (x7 x9 x10 x12 x13 : AV) (h : Heap) :
    runK C0 call md 7 n (.region 8 (O7 8) false) k (st 100 [(7, x7), (9, x9), (10, x10), (12, x12), (13, x13)]) h =
    bnd (aBinC tab .lss 3 x13 x12 false) fun v1 =>
    k .normal (st 100 [(7, x7), (9, x9), (10, x10), (12, x12), (13, x13), (43, v1)]) h
  := by kernel_rfl
theorem r7_9 {β : Type} (call : CallF) (md : Bool) (n : Nat) (k : Ex → List AV → Heap → Option β) (x7 x9 x10 x12 x13 x49 : AV) (h : Heap) :
    runK C0 call md 7 n (.region 9 (O7 9) false) k (st 100 [(7, x7), (9, x9), (10, x10), (12, x12), (13, x13), (49, x49)]) h =
    bnd (aBinC tab .add 3 x13 (.int .i64 1) true) fun v1 =>
    k .normal (st 100 [(7, x7), (9, x9), (10, x10), (12, x12), (13, v1)]) h
  := by kernel_rfl
theorem r7_10 {β : Type} (call : CallF) (md : Bool) (n : Nat) (k : Ex → List AV → Heap → Option β) (x7 x9 x10 x12 x13 x43 : AV) (h : Heap) :
    runK C0 call md 7 n (.region 10 (O7 10) false) k (st 100 [(7, x7), (9, x9), (10, x10), (12, x12), (13, x13), (43, x43)]) h =
    bnd2 (aCall call md (.fn (.func 33) []) [x7, x10] h) fun v1 h2 =>
    bnd (aBinC tab .neq 27 v1 (.int .i64 0) true) fun v3 =>
    k .normal (st 100 [(7, x7), (9, x9), (10, x10), (12, x12), (13, x13), (49, v3)]) h2
  := by kernel_rfl
theorem r7_11 {β : Type} (call : CallF) (md : Bool) (n : Nat) (k : Ex → List AV → Heap → Option β) (x7 x9 x10 x12 x13 x49 : AV) (h : Heap) :
    runK C0 call md 7 n (.region 11 (O7 11) false) k (st 100 [(7, x7), (9, x9), (10, x10), (12, x12), (13, x13), (49, x49)]) h =
    k .normal (st 100 [(4, (.bool false))]) h
  := by kernel_rfl
theorem r7_12 {β : Type} (call : CallF) (md : Bool) (n : Nat) (k : Ex → List AV → Heap → Option β) (x7 x9 x10 x12 x13 x43 : AV) (h : Heap) :
    runK C0 call md 7 n (.region 12 (O7 12) false) k (st 100 [(7, x7), (9, x9), (10, x10), (12, x12), (13, x13), (43, x43)]) h =
    bnd2 (aCall call md (.fn (.func 33) []) [x7, x10] h) fun v1 h2 =>
    k .normal (st 100 [(7, x7), (9, x9), (10, x10), (12, x12), (14, v1)]) h2
  := by kernel_rfl
theorem r7_13 {β : Type} (call : CallF) (md : Bool) (n : Nat) (k : Ex → List AV → Heap → Option β) (x7 x9 x10 x12 x14 : AV) (h : Heap) :
    runK C0 call md 7 n (.region 13 (O7 13) false) k (st 100 [(7, x7), (9, x9), (10, x10), (12, x12), (14, x14)]) h =
    bnd2 (aCall call md (.fn (.func 34) []) [x7] h) fun v1 h2 =>
    k .normal (st 100 [(7, x7), (9, x9), (10, x10), (12, x12), (14, x14), (15, v1)]) h2
  := by kernel_rfl
theorem r7_14 {β : Type} (call : CallF) (md : Bool) (n : Nat) (k : Ex → List AV → Heap → Option β) (x7 x9 x10 x12 x14 x15 : AV) (h : Heap) :
    runK C0 call md 7 n (.region 14 (O7 14) false) k (st 100 [(7, x7), (9, x9), (10, x10), (12, x12), (14, x14), (15, x15)]) h =
    bnd2 (aCall call md (.fn (.func 35) []) [x7, x10] h) fun v1 h2 =>
    k .normal (st 100 [(7, x7), (9, x9), (10, x10), (12, x12), (14, x14), (15, x15), (16, v1)]) h2
  := by kernel_rfl
theorem r7_15 {β : Type} (call : CallF) (md : Bool) (n : Nat) (k : Ex → List AV → Heap → Option β) (x7 x9 x10 x12 x14 x15 x16 : AV) (h : Heap) :
    runK C0 call md 7 n (.region 15 (O7 15) false) k (st 100 [(7, x7), (9, x9), (10, x10), (12, x12), (14, x14), (15, x15), (16, x16)]) h =
    k .normal (st 100 [(7, x7), (9, x9), (10, x10), (12, x12), (14, x14), (15, x15), (16, x16), (17, (.int .i64 0))]) h
  := by kernel_rfl
theorem r7_16 {β : Type} (call : CallF) (md : Bool) (n : Nat) (k : Ex → List AV → Heap → Option β) (x7 x9 x10 x12 x14 x15 x16 x17 : AV) (h : Heap) :
    runK C0 call md 7 n (.region 16 (O7 16) false) k (st 100 [(7, x7), (9, x9), (10, x10), (12, x12), (14, x14), (15, x15), (16, x16), (17, x17)]) h =
    bnd (aBinC tab .eql 3 x12 (.int .i64 0) true) fun v1 =>
    k .normal (st 100 [(7, x7), (9, x9), (10, x10), (12, x12), (14, x14), (15, x15), (16, x16), (17, x17), (59, v1)]) h
  := by kernel_rfl
theorem r7_17 {β : Type} (call : CallF) (md : Bool) (n : Nat) (k : Ex → List AV → Heap → Option β) (x7 x9 x10 x12 x14 x15 x16 x17 x59 : AV) (h : Heap) :
    runK C0 call md 7 n (.region 17 (O7 17) false) k (st 100 [(7, x7), (9, x9), (10, x10), (12, x12), (14, x14), (15, x15), (16, x16), (17, x17), (59, x59)]) h =
    k .normal (st 100 [(7, x7), (9, x9), (10, x10), (12, x12), (14, x14), (15, x15), (16, x16), (17, (.int .i64 3))]) h
  := by kernel_rfl
def J7_18a_14 {β : Type} (call : CallF) (md : Bool) (k : Ex → List AV → Heap → Option β) (x83 x98 : AV) (h : Heap) : Option β :=
    bnd (aPick x83 x98 (.bool false)) fun v1 =>
    k .normal (st 100 [(4, v1)]) h
theorem j7_18a_14 {β : Type} (call : CallF) (md : Bool) (k : Ex → List AV → Heap → Option β) (x7 x9 x10 x12 x14 x15 x16 x17 x59 x60 x61 x62 x63 x64 x65 x66 x67 x68 x69 x70 x71 x72 x73 x74 x75 x76 x77 x78 x79 x80 x81 x82 x83 x84 x85 x86 x87 x88 x89 x90 x91 x92 x93 x94 x95 x96 x97 x98 : AV) (h : Heap) :
    opsK C0 call md 7 (O7 18) ((O7 18).toList.drop 39) (st 100 [(7, x7), (9, x9), (10, x10), (12, x12), (14, x14), (15, x15), (16, x16), (17, x17), (59, x59), (60, x60), (61, x61), (62, x62), (63, x63), (64, x64), (65, x65), (66, x66), (67, x67), (68, x68), (69, x69), (70, x70), (71, x71), (72, x72), (73, x73), (74, x74), (75, x75), (76, x76), (77, x77), (78, x78), (79, x79), (80, x80), (81, x81), (82, x82), (83, x83), (84, x84), (85, x85), (86, x86), (87, x87), (88, x88), (89, x89), (90, x90), (91, x91), (92, x92), (93, x93), (94, x94), (95, x95), (96, x96), (97, x97), (98, x98)]) h (fun tm h => k .normal (clr (C0.keep 7 18) tm) h) = J7_18a_14 call md k x83 x98 h := by kernel_rfl
def J7_18a_13 {β : Type} (call : CallF) (md : Bool) (k : Ex → List AV → Heap → Option β) (x83 x86 x97 : AV) (h : Heap) : Option β :=
    onG true x83 (
      bnd (aPick x86 (.bool true) x97) fun v3 =>
      J7_18a_14 call md k x83 v3 h) (
      J7_18a_14 call md k x83 .skip h)
theorem g7_18a_13 {β : Type} (call : CallF) (md : Bool) (kk : List AV → Heap → Option β) (x7 x9 x10 x12 x14 x15 x16 x17 x59 x60 x61 x62 x63 x64 x65 x66 x67 x68 x69 x70 x71 x72 x73 x74 x75 x76 x77 x78 x79 x80 x81 x82 x83 x84 x85 x86 x87 x88 x89 x90 x91 x92 x93 x94 x95 x96 x97 : AV) (h : Heap) :
    opsK C0 call md 7 (O7 18) (((O7 18).toList.drop 38).take 1) (st 100 [(7, x7), (9, x9), (10, x10), (12, x12), (14, x14), (15, x15), (16, x16), (17, x17), (59, x59), (60, x60), (61, x61), (62, x62), (63, x63), (64, x64), (65, x65), (66, x66), (67, x67), (68, x68), (69, x69), (70, x70), (71, x71), (72, x72), (73, x73), (74, x74), (75, x75), (76, x76), (77, x77), (78, x78), (79, x79), (80, x80), (81, x81), (82, x82), (83, x83), (84, x84), (85, x85), (86, x86), (87, x87), (88, x88), (89, x89), (90, x90), (91, x91), (92, x92), (93, x93), (94, x94), (95, x95), (96, x96), (97, x97)]) h kk =
    onG true x83 (
      bnd (aPick x86 (.bool true) x97) fun v4 =>
      kk (st 100 [(7, x7), (9, x9), (10, x10), (12, x12), (14, x14), (15, x15), (16, x16), (17, x17), (59, x59), (60, x60), (61, x61), (62, x62), (63, x63), (64, x64), (65, x65), (66, x66), (67, x67), (68, x68), (69, x69), (70, x70), (71, x71), (72, x72), (73, x73), (74, x74), (75, x75), (76, x76), (77, x77), (78, x78), (79, x79), (80, x80), (81, x81), (82, x82), (83, x83), (84, x84), (85, x85), (86, x86), (87, x87), (88, x88), (89, x89), (90, x90), (91, x91), (92, x92), (93, x93), (94, x94), (95, x95), (96, x96), (97, x97), (98, v4)]) h) (
      kk (st 100 [(7, x7), (9, x9), (10, x10), (12, x12), (14, x14), (15, x15), (16, x16), (17, x17), (59, x59), (60, x60), (61, x61), (62, x62), (63, x63), (64, x64), (65, x65), (66, x66), (67, x67), (68, x68), (69, x69), (70, x70), (71, x71), (72, x72), (73, x73), (74, x74), (75, x75), (76, x76), (77, x77), (78, x78), (79, x79), (80, x80), (81, x81), (82, x82), (83, x83), (84, x84), (85, x85), (86, x86), (87, x87), (88, x88), (89, x89), (90, x90), (91, x91), (92, x92), (93, x93), (94, x94), (95, x95), (96, x96), (97, x97), (98, .skip)]) h)
  := by cases x83 with | bool b => (cases b <;> kernel_rfl) | _ => kernel_rfl
theorem j7_18a_13 {β : Type} (call : CallF) (md : Bool) (k : Ex → List AV → Heap → Option β) (x7 x9 x10 x12 x14 x15 x16 x17 x59 x60 x61 x62 x63 x64 x65 x66 x67 x68 x69 x70 x71 x72 x73 x74 x75 x76 x77 x78 x79 x80 x81 x82 x83 x84 x85 x86 x87 x88 x89 x90 x91 x92 x93 x94 x95 x96 x97 : AV) (h : Heap) :
    opsK C0 call md 7 (O7 18) ((O7 18).toList.drop 38) (st 100 [(7, x7), (9, x9), (10, x10), (12, x12), (14, x14), (15, x15), (16, x16), (17, x17), (59, x59), (60, x60), (61, x61), (62, x62), (63, x63), (64, x64), (65, x65), (66, x66), (67, x67), (68, x68), (69, x69), (70, x70), (71, x71), (72, x72), (73, x73), (74, x74), (75, x75), (76, x76), (77, x77), (78, x78), (79, x79), (80, x80), (81, x81), (82, x82), (83, x83), (84, x84), (85, x85), (86, x86), (87, x87), (88, x88), (89, x89), (90, x90), (91, x91), (92, x92), (93, x93), (94, x94), (95, x95), (96, x96), (97, x97)]) h (fun tm h => k .normal (clr (C0.keep 7 18) tm) h) = J7_18a_13 call md k x83 x86 x97 h := by
  have e : ((O7 18).toList.drop 38) = ((O7 18).toList.drop 38).take 1 ++ (O7 18).toList.drop 39 := by kernel_rfl
  rw [show opsK C0 call md 7 (O7 18) ((O7 18).toList.drop 38) = opsK C0 call md 7 (O7 18) (((O7 18).toList.drop 38).take 1 ++ (O7 18).toList.drop 39) from congrArg _ e]
  rw [opsK_append, g7_18a_13]
  simp only [j7_18a_14]
  rfl
def J7_18a_12 {β : Type} (call : CallF) (md : Bool) (k : Ex → List AV → Heap → Option β) (x83 x86 x90 x96 : AV) (h : Heap) : Option β :=
    onG false x86 (
      bnd (aPick x90 x96 (.bool false)) fun v5 =>
      J7_18a_13 call md k x83 x86 v5 h) (
      J7_18a_13 call md k x83 x86 .skip h)
theorem g7_18a_12 {β : Type} (call : CallF) (md : Bool) (kk : List AV → Heap → Option β) (x7 x9 x10 x12 x14 x15 x16 x17 x59 x60 x61 x62 x63 x64 x65 x66 x67 x68 x69 x70 x71 x72 x73 x74 x75 x76 x77 x78 x79 x80 x81 x82 x83 x84 x85 x86 x87 x88 x89 x90 x91 x92 x93 x94 x95 x96 : AV) (h : Heap) :
    opsK C0 call md 7 (O7 18) (((O7 18).toList.drop 37).take 1) (st 100 [(7, x7), (9, x9), (10, x10), (12, x12), (14, x14), (15, x15), (16, x16), (17, x17), (59, x59), (60, x60), (61, x61), (62, x62), (63, x63), (64, x64), (65, x65), (66, x66), (67, x67), (68, x68), (69, x69), (70, x70), (71, x71), (72, x72), (73, x73), (74, x74), (75, x75), (76, x76), (77, x77), (78, x78), (79, x79), (80, x80), (81, x81), (82, x82), (83, x83), (84, x84), (85, x85), (86, x86), (87, x87), (88, x88), (89, x89), (90, x90), (91, x91), (92, x92), (93, x93), (94, x94), (95, x95), (96, x96)]) h kk =
    onG false x86 (
      bnd (aPick x90 x96 (.bool false)) fun v6 =>
      kk (st 100 [(7, x7), (9, x9), (10, x10), (12, x12), (14, x14), (15, x15), (16, x16), (17, x17), (59, x59), (60, x60), (61, x61), (62, x62), (63, x63), (64, x64), (65, x65), (66, x66), (67, x67), (68, x68), (69, x69), (70, x70), (71, x71), (72, x72), (73, x73), (74, x74), (75, x75), (76, x76), (77, x77), (78, x78), (79, x79), (80, x80), (81, x81), (82, x82), (83, x83), (84, x84), (85, x85), (86, x86), (87, x87), (88, x88), (89, x89), (90, x90), (91, x91), (92, x92), (93, x93), (94, x94), (95, x95), (96, x96), (97, v6)]) h) (
      kk (st 100 [(7, x7), (9, x9), (10, x10), (12, x12), (14, x14), (15, x15), (16, x16), (17, x17), (59, x59), (60, x60), (61, x61), (62, x62), (63, x63), (64, x64), (65, x65), (66, x66), (67, x67), (68, x68), (69, x69), (70, x70), (71, x71), (72, x72), (73, x73), (74, x74), (75, x75), (76, x76), (77, x77), (78, x78), (79, x79), (80, x80), (81, x81), (82, x82), (83, x83), (84, x84), (85, x85), (86, x86), (87, x87), (88, x88), (89, x89), (90, x90), (91, x91), (92, x92), (93, x93), (94, x94), (95, x95), (96, x96), (97, .skip)]) h)
  := by cases x86 with | bool b => (cases b <;> kernel_rfl) | _ => kernel_rfl
theorem j7_18a_12 {β : Type} (call : CallF) (md : Bool) (k : Ex → List AV → Heap → Option β) (x7 x9 x10 x12 x14 x15 x16 x17 x59 x60 x61 x62 x63 x64 x65 x66 x67 x68 x69 x70 x71 x72 x73 x74 x75 x76 x77 x78 x79 x80 x81 x82 x83 x84 x85 x86 x87 x88 x89 x90 x91 x92 x93 x94 x95 x96 : AV) (h : Heap) :
    opsK C0 call md 7 (O7 18) ((O7 18).toList.drop 37) (st 100 [(7, x7), (9, x9), (10, x10), (12, x12), (14, x14), (15, x15), (16, x16), (17, x17), (59, x59), (60, x60), (61, x61), (62, x62), (63, x63), (64, x64), (65, x65), (66, x66), (67, x67), (68, x68), (69, x69), (70, x70), (71, x71), (72, x72), (73, x73), (74, x74), (75, x75), (76, x76), (77, x77), (78, x78), (79, x79), (80, x80), (81, x81), (82, x82), (83, x83), (84, x84), (85, x85), (86, x86), (87, x87), (88, x88), (89, x89), (90, x90), (91, x91), (92, x92), (93, x93), (94, x94), (95, x95), (96, x96)]) h (fun tm h => k .normal (clr (C0.keep 7 18) tm) h) = J7_18a_12 call md k x83 x86 x90 x96 h := by
  have e : ((O7 18).toList.drop 37) = ((O7 18).toList.drop 37).take 1 ++ (O7 18).toList.drop 38 := by kernel_rfl
  rw [show opsK C0 call md 7 (O7 18) ((O7 18).toList.drop 37) = opsK C0 call md 7 (O7 18) (((O7 18).toList.drop 37).take 1 ++ (O7 18).toList.drop 38) from congrArg _ e]
  rw [opsK_append, g7_18a_12]
  simp only [j7_18a_13]
  rfl
def J7_18a_11 {β : Type} (call : CallF) (md : Bool) (k : Ex → List AV → Heap → Option β) (x7 x10 x83 x86 x90 : AV) (h : Heap) : Option β :=
    onG true x90 (
      bnd2 (aCall call md (.fn (.func 34) []) [x7] h) fun v7 h8 =>
      bnd2 (aCall call md (.fn (.func 32) []) [(.int .i64 1), x10] h8) fun v9 h10 =>
      bnd (aLen tab 30 v9) fun v11 =>
      bnd (aBinC tab .eql 3 v7 v11 false) fun v12 =>
      J7_18a_12 call md k x83 x86 x90 v12 h10) (
      J7_18a_12 call md k x83 x86 x90 .skip h)
theorem g7_18a_11 {β : Type} (call : CallF) (md : Bool) (kk : List AV → Heap → Option β) (x7 x9 x10 x12 x14 x15 x16 x17 x59 x60 x61 x62 x63 x64 x65 x66 x67 x68 x69 x70 x71 x72 x73 x74 x75 x76 x77 x78 x79 x80 x81 x82 x83 x84 x85 x86 x87 x88 x89 x90 : AV) (h : Heap) :
    opsK C0 call md 7 (O7 18) (((O7 18).toList.drop 31).take 6) (st 100 [(7, x7), (9, x9), (10, x10), (12, x12), (14, x14), (15, x15), (16, x16), (17, x17), (59, x59), (60, x60), (61, x61), (62, x62), (63, x63), (64, x64), (65, x65), (66, x66), (67, x67), (68, x68), (69, x69), (70, x70), (71, x71), (72, x72), (73, x73), (74, x74), (75, x75), (76, x76), (77, x77), (78, x78), (79, x79), (80, x80), (81, x81), (82, x82), (83, x83), (84, x84), (85, x85), (86, x86), (87, x87), (88, x88), (89, x89), (90, x90)]) h kk =
    onG true x90 (
      bnd2 (aCall call md (.fn (.func 34) []) [x7] h) fun v13 h14 =>
      bnd2 (aCall call md (.fn (.func 32) []) [(.int .i64 1), x10] h14) fun v15 h16 =>
      bnd (aLen tab 30 v15) fun v17 =>
      bnd (aBinC tab .eql 3 v13 v17 false) fun v18 =>
      kk (st 100 [(7, x7), (9, x9), (10, x10), (12, x12), (14, x14), (15, x15), (16, x16), (17, x17), (59, x59), (60, x60), (61, x61), (62, x62), (63, x63), (64, x64), (65, x65), (66, x66), (67, x67), (68, x68), (69, x69), (70, x70), (71, x71), (72, x72), (73, x73), (74, x74), (75, x75), (76, x76), (77, x77), (78, x78), (79, x79), (80, x80), (81, x81), (82, x82), (83, x83), (84, x84), (85, x85), (86, x86), (87, x87), (88, x88), (89, x89), (90, x90), (91, x7), (92, v13), (93, x10), (94, v15), (95, v17), (96, v18)]) h16) (
      kk (st 100 [(7, x7), (9, x9), (10, x10), (12, x12), (14, x14), (15, x15), (16, x16), (17, x17), (59, x59), (60, x60), (61, x61), (62, x62), (63, x63), (64, x64), (65, x65), (66, x66), (67, x67), (68, x68), (69, x69), (70, x70), (71, x71), (72, x72), (73, x73), (74, x74), (75, x75), (76, x76), (77, x77), (78, x78), (79, x79), (80, x80), (81, x81), (82, x82), (83, x83), (84, x84), (85, x85), (86, x86), (87, x87), (88, x88), (89, x89), (90, x90), (91, .skip), (92, .skip), (93, .skip), (94, .skip), (95, .skip), (96, .skip)]) h)
  := by cases x90 with | bool b => (cases b <;> kernel_rfl) | _ => kernel_rfl
theorem j7_18a_11 {β : Type} (call : CallF) (md : Bool) (k : Ex → List AV → Heap → Option β) (x7 x9 x10 x12 x14 x15 x16 x17 x59 x60 x61 x62 x63 x64 x65 x66 x67 x68 x69 x70 x71 x72 x73 x74 x75 x76 x77 x78 x79 x80 x81 x82 x83 x84 x85 x86 x87 x88 x89 x90 : AV) (h : Heap) :
    opsK C0 call md 7 (O7 18) ((O7 18).toList.drop 31) (st 100 [(7, x7), (9, x9), (10, x10), (12, x12), (14, x14), (15, x15), (16, x16), (17, x17), (59, x59), (60, x60), (61, x61), (62, x62), (63, x63), (64, x64), (65, x65), (66, x66), (67, x67), (68, x68), (69, x69), (70, x70), (71, x71), (72, x72), (73, x73), (74, x74), (75, x75), (76, x76), (77, x77), (78, x78), (79, x79), (80, x80), (81, x81), (82, x82), (83, x83), (84, x84), (85, x85), (86, x86), (87, x87), (88, x88), (89, x89), (90, x90)]) h (fun tm h => k .normal (clr (C0.keep 7 18) tm) h) = J7_18a_11 call md k x7 x10 x83 x86 x90 h := by
  have e : ((O7 18).toList.drop 31) = ((O7 18).toList.drop 31).take 6 ++ (O7 18).toList.drop 37 := by kernel_rfl
  rw [show opsK C0 call md 7 (O7 18) ((O7 18).toList.drop 31) = opsK C0 call md 7 (O7 18) (((O7 18).toList.drop 31).take 6 ++ (O7 18).toList.drop 37) from congrArg _ e]
  rw [opsK_append, g7_18a_11]
  simp only [j7_18a_12]
  rfl
def J7_18a_10 {β : Type} (call : CallF) (md : Bool) (k : Ex → List AV → Heap → Option β) (x7 x10 x83 x86 : AV) (h : Heap) : Option β :=
    onG false x86 (
      bnd2 (aCall call md (.fn (.func 37) []) [x7] h) fun v19 h20 =>
      bnd (aBinC tab .eql 3 v19 (.int .i64 2) true) fun v21 =>
      J7_18a_11 call md k x7 x10 x83 x86 v21 h20) (
      J7_18a_11 call md k x7 x10 x83 x86 .skip h)
theorem g7_18a_10 {β : Type} (call : CallF) (md : Bool) (kk : List AV → Heap → Option β) (x7 x9 x10 x12 x14 x15 x16 x17 x59 x60 x61 x62 x63 x64 x65 x66 x67 x68 x69 x70 x71 x72 x73 x74 x75 x76 x77 x78 x79 x80 x81 x82 x83 x84 x85 x86 : AV) (h : Heap) :
    opsK C0 call md 7 (O7 18) (((O7 18).toList.drop 27).take 4) (st 100 [(7, x7), (9, x9), (10, x10), (12, x12), (14, x14), (15, x15), (16, x16), (17, x17), (59, x59), (60, x60), (61, x61), (62, x62), (63, x63), (64, x64), (65, x65), (66, x66), (67, x67), (68, x68), (69, x69), (70, x70), (71, x71), (72, x72), (73, x73), (74, x74), (75, x75), (76, x76), (77, x77), (78, x78), (79, x79), (80, x80), (81, x81), (82, x82), (83, x83), (84, x84), (85, x85), (86, x86)]) h kk =
    onG false x86 (
      bnd2 (aCall call md (.fn (.func 37) []) [x7] h) fun v22 h23 =>
      bnd (aBinC tab .eql 3 v22 (.int .i64 2) true) fun v24 =>
      kk (st 100 [(7, x7), (9, x9), (10, x10), (12, x12), (14, x14), (15, x15), (16, x16), (17, x17), (59, x59), (60, x60), (61, x61), (62, x62), (63, x63), (64, x64), (65, x65), (66, x66), (67, x67), (68, x68), (69, x69), (70, x70), (71, x71), (72, x72), (73, x73), (74, x74), (75, x75), (76, x76), (77, x77), (78, x78), (79, x79), (80, x80), (81, x81), (82, x82), (83, x83), (84, x84), (85, x85), (86, x86), (87, x7), (88, v22), (89, v24), (90, v24)]) h23) (
      kk (st 100 [(7, x7), (9, x9), (10, x10), (12, x12), (14, x14), (15, x15), (16, x16), (17, x17), (59, x59), (60, x60), (61, x61), (62, x62), (63, x63), (64, x64), (65, x65), (66, x66), (67, x67), (68, x68), (69, x69), (70, x70), (71, x71), (72, x72), (73, x73), (74, x74), (75, x75), (76, x76), (77, x77), (78, x78), (79, x79), (80, x80), (81, x81), (82, x82), (83, x83), (84, x84), (85, x85), (86, x86), (87, .skip), (88, .skip), (89, .skip), (90, .skip)]) h)
  := by cases x86 with | bool b => (cases b <;> kernel_rfl) | _ => kernel_rfl
theorem j7_18a_10 {β : Type} (call : CallF) (md : Bool) (k : Ex → List AV → Heap → Option β) (x7 x9 x10 x12 x14 x15 x16 x17 x59 x60 x61 x62 x63 x64 x65 x66 x67 x68 x69 x70 x71 x72 x73 x74 x75 x76 x77 x78 x79 x80 x81 x82 x83 x84 x85 x86 : AV) (h : Heap) :
    opsK C0 call md 7 (O7 18) ((O7 18).toList.drop 27) (st 100 [(7, x7), (9, x9), (10, x10), (12, x12), (14, x14), (15, x15), (16, x16), (17, x17), (59, x59), (60, x60), (61, x61), (62, x62), (63, x63), (64, x64), (65, x65), (66, x66), (67, x67), (68, x68), (69, x69), (70, x70), (71, x71), (72, x72), (73, x73), (74, x74), (75, x75), (76, x76), (77, x77), (78, x78), (79, x79), (80, x80), (81, x81), (82, x82), (83, x83), (84, x84), (85, x85), (86, x86)]) h (fun tm h => k .normal (clr (C0.keep 7 18) tm) h) = J7_18a_10 call md k x7 x10 x83 x86 h := by
  have e : ((O7 18).toList.drop 27) = ((O7 18).toList.drop 27).take 4 ++ (O7 18).toList.drop 31 := by kernel_rfl
  rw [show opsK C0 call md 7 (O7 18) ((O7 18).toList.drop 27) = opsK C0 call md 7 (O7 18) (((O7 18).toList.drop 27).take 4 ++ (O7 18).toList.drop 31) from congrArg _ e]
  rw [opsK_append, g7_18a_10]
  simp only [j7_18a_11]
  rfl
def J7_18a_9 {β : Type} (call : CallF) (md : Bool) (k : Ex → List AV → Heap → Option β) (x7 x10 x16 x83 : AV) (h : Heap) : Option β :=
    onG true x83 (
      bnd (aBinC tab .neq 27 x16 (.int .i64 0) true) fun v25 =>
      J7_18a_10 call md k x7 x10 x83 v25 h) (
      J7_18a_10 call md k x7 x10 x83 .skip h)
theorem g7_18a_9 {β : Type} (call : CallF) (md : Bool) (kk : List AV → Heap → Option β) (x7 x9 x10 x12 x14 x15 x16 x17 x59 x60 x61 x62 x63 x64 x65 x66 x67 x68 x69 x70 x71 x72 x73 x74 x75 x76 x77 x78 x79 x80 x81 x82 x83 : AV) (h : Heap) :
    opsK C0 call md 7 (O7 18) (((O7 18).toList.drop 24).take 3) (st 100 [(7, x7), (9, x9), (10, x10), (12, x12), (14, x14), (15, x15), (16, x16), (17, x17), (59, x59), (60, x60), (61, x61), (62, x62), (63, x63), (64, x64), (65, x65), (66, x66), (67, x67), (68, x68), (69, x69), (70, x70), (71, x71), (72, x72), (73, x73), (74, x74), (75, x75), (76, x76), (77, x77), (78, x78), (79, x79), (80, x80), (81, x81), (82, x82), (83, x83)]) h kk =
    onG true x83 (
      bnd (aBinC tab .neq 27 x16 (.int .i64 0) true) fun v26 =>
      kk (st 100 [(7, x7), (9, x9), (10, x10), (12, x12), (14, x14), (15, x15), (16, x16), (17, x17), (59, x59), (60, x60), (61, x61), (62, x62), (63, x63), (64, x64), (65, x65), (66, x66), (67, x67), (68, x68), (69, x69), (70, x70), (71, x71), (72, x72), (73, x73), (74, x74), (75, x75), (76, x76), (77, x77), (78, x78), (79, x79), (80, x80), (81, x81), (82, x82), (83, x83), (84, x16), (85, v26), (86, v26)]) h) (
      kk (st 100 [(7, x7), (9, x9), (10, x10), (12, x12), (14, x14), (15, x15), (16, x16), (17, x17), (59, x59), (60, x60), (61, x61), (62, x62), (63, x63), (64, x64), (65, x65), (66, x66), (67, x67), (68, x68), (69, x69), (70, x70), (71, x71), (72, x72), (73, x73), (74, x74), (75, x75), (76, x76), (77, x77), (78, x78), (79, x79), (80, x80), (81, x81), (82, x82), (83, x83), (84, .skip), (85, .skip), (86, .skip)]) h)
  := by cases x83 with | bool b => (cases b <;> kernel_rfl) | _ => kernel_rfl
theorem j7_18a_9 {β : Type} (call : CallF) (md : Bool) (k : Ex → List AV → Heap → Option β) (x7 x9 x10 x12 x14 x15 x16 x17 x59 x60 x61 x62 x63 x64 x65 x66 x67 x68 x69 x70 x71 x72 x73 x74 x75 x76 x77 x78 x79 x80 x81 x82 x83 : AV) (h : Heap) :
    opsK C0 call md 7 (O7 18) ((O7 18).toList.drop 24) (st 100 [(7, x7), (9, x9), (10, x10), (12, x12), (14, x14), (15, x15), (16, x16), (17, x17), (59, x59), (60, x60), (61, x61), (62, x62), (63, x63), (64, x64), (65, x65), (66, x66), (67, x67), (68, x68), (69, x69), (70, x70), (71, x71), (72, x72), (73, x73), (74, x74), (75, x75), (76, x76), (77, x77), (78, x78), (79, x79), (80, x80), (81, x81), (82, x82), (83, x83)]) h (fun tm h => k .normal (clr (C0.keep 7 18) tm) h) = J7_18a_9 call md k x7 x10 x16 x83 h := by
  have e : ((O7 18).toList.drop 24) = ((O7 18).toList.drop 24).take 3 ++ (O7 18).toList.drop 27 := by kernel_rfl
  rw [show opsK C0 call md 7 (O7 18) ((O7 18).toList.drop 24) = opsK C0 call md 7 (O7 18) (((O7 18).toList.drop 24).take 3 ++ (O7 18).toList.drop 27) from congrArg _ e]
  rw [opsK_append, g7_18a_9]
  simp only [j7_18a_10]
  rfl
def J7_18a_8 {β : Type} (call : CallF) (md : Bool) (k : Ex → List AV → Heap → Option β) (x7 x10 x16 x78 x81 : AV) (h : Heap) : Option β :=
    bnd (aPick x78 x81 (.bool false)) fun v27 =>
    J7_18a_9 call md k x7 x10 x16 v27 h
theorem g7_18a_8 {β : Type} (call : CallF) (md : Bool) (kk : List AV → Heap → Option β) (x7 x9 x10 x12 x14 x15 x16 x17 x59 x60 x61 x62 x63 x64 x65 x66 x67 x68 x69 x70 x71 x72 x73 x74 x75 x76 x77 x78 x79 x80 x81 : AV) (h : Heap) :
    opsK C0 call md 7 (O7 18) (((O7 18).toList.drop 22).take 2) (st 100 [(7, x7), (9, x9), (10, x10), (12, x12), (14, x14), (15, x15), (16, x16), (17, x17), (59, x59), (60, x60), (61, x61), (62, x62), (63, x63), (64, x64), (65, x65), (66, x66), (67, x67), (68, x68), (69, x69), (70, x70), (71, x71), (72, x72), (73, x73), (74, x74), (75, x75), (76, x76), (77, x77), (78, x78), (79, x79), (80, x80), (81, x81)]) h kk =
    bnd (aPick x78 x81 (.bool false)) fun v28 =>
    kk (st 100 [(7, x7), (9, x9), (10, x10), (12, x12), (14, x14), (15, x15), (16, x16), (17, x17), (59, x59), (60, x60), (61, x61), (62, x62), (63, x63), (64, x64), (65, x65), (66, x66), (67, x67), (68, x68), (69, x69), (70, x70), (71, x71), (72, x72), (73, x73), (74, x74), (75, x75), (76, x76), (77, x77), (78, x78), (79, x79), (80, x80), (81, x81), (82, v28), (83, v28)]) h
  := by kernel_rfl
theorem j7_18a_8 {β : Type} (call : CallF) (md : Bool) (k : Ex → List AV → Heap → Option β) (x7 x9 x10 x12 x14 x15 x16 x17 x59 x60 x61 x62 x63 x64 x65 x66 x67 x68 x69 x70 x71 x72 x73 x74 x75 x76 x77 x78 x79 x80 x81 : AV) (h : Heap) :
    opsK C0 call md 7 (O7 18) ((O7 18).toList.drop 22) (st 100 [(7, x7), (9, x9), (10, x10), (12, x12), (14, x14), (15, x15), (16, x16), (17, x17), (59, x59), (60, x60), (61, x61), (62, x62), (63, x63), (64, x64), (65, x65), (66, x66), (67, x67), (68, x68), (69, x69), (70, x70), (71, x71), (72, x72), (73, x73), (74, x74), (75, x75), (76, x76), (77, x77), (78, x78), (79, x79), (80, x80), (81, x81)]) h (fun tm h => k .normal (clr (C0.keep 7 18) tm) h) = J7_18a_8 call md k x7 x10 x16 x78 x81 h := by
  have e : ((O7 18).toList.drop 22) = ((O7 18).toList.drop 22).take 2 ++ (O7 18).toList.drop 24 := by kernel_rfl
  rw [show opsK C0 call md 7 (O7 18) ((O7 18).toList.drop 22) = opsK C0 call md 7 (O7 18) (((O7 18).toList.drop 22).take 2 ++ (O7 18).toList.drop 24) from congrArg _ e]
  rw [opsK_append, g7_18a_8]
  simp only [j7_18a_9]
  rfl
def J7_18a_7 {β : Type} (call : CallF) (md : Bool) (k : Ex → List AV → Heap → Option β) (x7 x10 x16 x17 x78 : AV) (h : Heap) : Option β :=
    onG true x78 (
      bnd (aBinC tab .eql 27 x16 x17 false) fun v29 =>
      J7_18a_8 call md k x7 x10 x16 x78 v29 h) (
      J7_18a_8 call md k x7 x10 x16 x78 .skip h)
theorem g7_18a_7 {β : Type} (call : CallF) (md : Bool) (kk : List AV → Heap → Option β) (x7 x9 x10 x12 x14 x15 x16 x17 x59 x60 x61 x62 x63 x64 x65 x66 x67 x68 x69 x70 x71 x72 x73 x74 x75 x76 x77 x78 : AV) (h : Heap) :
    opsK C0 call md 7 (O7 18) (((O7 18).toList.drop 19).take 3) (st 100 [(7, x7), (9, x9), (10, x10), (12, x12), (14, x14), (15, x15), (16, x16), (17, x17), (59, x59), (60, x60), (61, x61), (62, x62), (63, x63), (64, x64), (65, x65), (66, x66), (67, x67), (68, x68), (69, x69), (70, x70), (71, x71), (72, x72), (73, x73), (74, x74), (75, x75), (76, x76), (77, x77), (78, x78)]) h kk =
    onG true x78 (
      bnd (aBinC tab .eql 27 x16 x17 false) fun v30 =>
      kk (st 100 [(7, x7), (9, x9), (10, x10), (12, x12), (14, x14), (15, x15), (16, x16), (17, x17), (59, x59), (60, x60), (61, x61), (62, x62), (63, x63), (64, x64), (65, x65), (66, x66), (67, x67), (68, x68), (69, x69), (70, x70), (71, x71), (72, x72), (73, x73), (74, x74), (75, x75), (76, x76), (77, x77), (78, x78), (79, x16), (80, x17), (81, v30)]) h) (
      kk (st 100 [(7, x7), (9, x9), (10, x10), (12, x12), (14, x14), (15, x15), (16, x16), (17, x17), (59, x59), (60, x60), (61, x61), (62, x62), (63, x63), (64, x64), (65, x65), (66, x66), (67, x67), (68, x68), (69, x69), (70, x70), (71, x71), (72, x72), (73, x73), (74, x74), (75, x75), (76, x76), (77, x77), (78, x78), (79, .skip), (80, .skip), (81, .skip)]) h)
  := by cases x78 with | bool b => (cases b <;> kernel_rfl) | _ => kernel_rfl
theorem j7_18a_7 {β : Type} (call : CallF) (md : Bool) (k : Ex → List AV → Heap → Option β) (x7 x9 x10 x12 x14 x15 x16 x17 x59 x60 x61 x62 x63 x64 x65 x66 x67 x68 x69 x70 x71 x72 x73 x74 x75 x76 x77 x78 : AV) (h : Heap) :
    opsK C0 call md 7 (O7 18) ((O7 18).toList.drop 19) (st 100 [(7, x7), (9, x9), (10, x10), (12, x12), (14, x14), (15, x15), (16, x16), (17, x17), (59, x59), (60, x60), (61, x61), (62, x62), (63, x63), (64, x64), (65, x65), (66, x66), (67, x67), (68, x68), (69, x69), (70, x70), (71, x71), (72, x72), (73, x73), (74, x74), (75, x75), (76, x76), (77, x77), (78, x78)]) h (fun tm h => k .normal (clr (C0.keep 7 18) tm) h) = J7_18a_7 call md k x7 x10 x16 x17 x78 h := by
  have e : ((O7 18).toList.drop 19) = ((O7 18).toList.drop 19).take 3 ++ (O7 18).toList.drop 22 := by kernel_rfl
  rw [show opsK C0 call md 7 (O7 18) ((O7 18).toList.drop 19) = opsK C0 call md 7 (O7 18) (((O7 18).toList.drop 19).take 3 ++ (O7 18).toList.drop 22) from congrArg _ e]
  rw [opsK_append, g7_18a_7]
  simp only [j7_18a_8]
  rfl
def J7_18a_6 {β : Type} (call : CallF) (md : Bool) (k : Ex → List AV → Heap → Option β) (x7 x10 x16 x17 x69 x76 : AV) (h : Heap) : Option β :=
    bnd (aPick x69 x76 (.bool false)) fun v31 =>
    J7_18a_7 call md k x7 x10 x16 x17 v31 h
theorem g7_18a_6 {β : Type} (call : CallF) (md : Bool) (kk : List AV → Heap → Option β) (x7 x9 x10 x12 x14 x15 x16 x17 x59 x60 x61 x62 x63 x64 x65 x66 x67 x68 x69 x70 x71 x72 x73 x74 x75 x76 : AV) (h : Heap) :
    opsK C0 call md 7 (O7 18) (((O7 18).toList.drop 17).take 2) (st 100 [(7, x7), (9, x9), (10, x10), (12, x12), (14, x14), (15, x15), (16, x16), (17, x17), (59, x59), (60, x60), (61, x61), (62, x62), (63, x63), (64, x64), (65, x65), (66, x66), (67, x67), (68, x68), (69, x69), (70, x70), (71, x71), (72, x72), (73, x73), (74, x74), (75, x75), (76, x76)]) h kk =
    bnd (aPick x69 x76 (.bool false)) fun v32 =>
    kk (st 100 [(7, x7), (9, x9), (10, x10), (12, x12), (14, x14), (15, x15), (16, x16), (17, x17), (59, x59), (60, x60), (61, x61), (62, x62), (63, x63), (64, x64), (65, x65), (66, x66), (67, x67), (68, x68), (69, x69), (70, x70), (71, x71), (72, x72), (73, x73), (74, x74), (75, x75), (76, x76), (77, v32), (78, v32)]) h
  := by kernel_rfl
theorem j7_18a_6 {β : Type} (call : CallF) (md : Bool) (k : Ex → List AV → Heap → Option β) (x7 x9 x10 x12 x14 x15 x16 x17 x59 x60 x61 x62 x63 x64 x65 x66 x67 x68 x69 x70 x71 x72 x73 x74 x75 x76 : AV) (h : Heap) :
    opsK C0 call md 7 (O7 18) ((O7 18).toList.drop 17) (st 100 [(7, x7), (9, x9), (10, x10), (12, x12), (14, x14), (15, x15), (16, x16), (17, x17), (59, x59), (60, x60), (61, x61), (62, x62), (63, x63), (64, x64), (65, x65), (66, x66), (67, x67), (68, x68), (69, x69), (70, x70), (71, x71), (72, x72), (73, x73), (74, x74), (75, x75), (76, x76)]) h (fun tm h => k .normal (clr (C0.keep 7 18) tm) h) = J7_18a_6 call md k x7 x10 x16 x17 x69 x76 h := by
  have e : ((O7 18).toList.drop 17) = ((O7 18).toList.drop 17).take 2 ++ (O7 18).toList.drop 19 := by kernel_rfl
  rw [show opsK C0 call md 7 (O7 18) ((O7 18).toList.drop 17) = opsK C0 call md 7 (O7 18) (((O7 18).toList.drop 17).take 2 ++ (O7 18).toList.drop 19) from congrArg _ e]
  rw [opsK_append, g7_18a_6]
  simp only [j7_18a_7]
  rfl
def J7_18a_5 {β : Type} (call : CallF) (md : Bool) (k : Ex → List AV → Heap → Option β) (x7 x10 x12 x15 x16 x17 x69 : AV) (h : Heap) : Option β :=
    onG true x69 (
      bnd2 (aCall call md (.fn (.func 32) []) [(.int .i64 1), x10] h) fun v33 h34 =>
      bnd (aLen tab 30 v33) fun v35 =>
      bnd (aBinC tab .mul 3 x12 v35 false) fun v36 =>
      bnd (aBinC tab .eql 3 x15 v36 false) fun v37 =>
      J7_18a_6 call md k x7 x10 x16 x17 x69 v37 h34) (
      J7_18a_6 call md k x7 x10 x16 x17 x69 .skip h)
theorem g7_18a_5 {β : Type} (call : CallF) (md : Bool) (kk : List AV → Heap → Option β) (x7 x9 x10 x12 x14 x15 x16 x17 x59 x60 x61 x62 x63 x64 x65 x66 x67 x68 x69 : AV) (h : Heap) :
    opsK C0 call md 7 (O7 18) (((O7 18).toList.drop 10).take 7) (st 100 [(7, x7), (9, x9), (10, x10), (12, x12), (14, x14), (15, x15), (16, x16), (17, x17), (59, x59), (60, x60), (61, x61), (62, x62), (63, x63), (64, x64), (65, x65), (66, x66), (67, x67), (68, x68), (69, x69)]) h kk =
    onG true x69 (
      bnd2 (aCall call md (.fn (.func 32) []) [(.int .i64 1), x10] h) fun v38 h39 =>
      bnd (aLen tab 30 v38) fun v40 =>
      bnd (aBinC tab .mul 3 x12 v40 false) fun v41 =>
      bnd (aBinC tab .eql 3 x15 v41 false) fun v42 =>
      kk (st 100 [(7, x7), (9, x9), (10, x10), (12, x12), (14, x14), (15, x15), (16, x16), (17, x17), (59, x59), (60, x60), (61, x61), (62, x62), (63, x63), (64, x64), (65, x65), (66, x66), (67, x67), (68, x68), (69, x69), (70, x15), (71, x12), (72, x10), (73, v38), (74, v40), (75, v41), (76, v42)]) h39) (
      kk (st 100 [(7, x7), (9, x9), (10, x10), (12, x12), (14, x14), (15, x15), (16, x16), (17, x17), (59, x59), (60, x60), (61, x61), (62, x62), (63, x63), (64, x64), (65, x65), (66, x66), (67, x67), (68, x68), (69, x69), (70, .skip), (71, .skip), (72, .skip), (73, .skip), (74, .skip), (75, .skip), (76, .skip)]) h)
  := by cases x69 with | bool b => (cases b <;> kernel_rfl) | _ => kernel_rfl
theorem j7_18a_5 {β : Type} (call : CallF) (md : Bool) (k : Ex → List AV → Heap → Option β) (x7 x9 x10 x12 x14 x15 x16 x17 x59 x60 x61 x62 x63 x64 x65 x66 x67 x68 x69 : AV) (h : Heap) :
    opsK C0 call md 7 (O7 18) ((O7 18).toList.drop 10) (st 100 [(7, x7), (9, x9), (10, x10), (12, x12), (14, x14), (15, x15), (16, x16), (17, x17), (59, x59), (60, x60), (61, x61), (62, x62), (63, x63), (64, x64), (65, x65), (66, x66), (67, x67), (68, x68), (69, x69)]) h (fun tm h => k .normal (clr (C0.keep 7 18) tm) h) = J7_18a_5 call md k x7 x10 x12 x15 x16 x17 x69 h := by
  have e : ((O7 18).toList.drop 10) = ((O7 18).toList.drop 10).take 7 ++ (O7 18).toList.drop 17 := by kernel_rfl
  rw [show opsK C0 call md 7 (O7 18) ((O7 18).toList.drop 10) = opsK C0 call md 7 (O7 18) (((O7 18).toList.drop 10).take 7 ++ (O7 18).toList.drop 17) from congrArg _ e]
  rw [opsK_append, g7_18a_5]
  simp only [j7_18a_6]
  rfl
def J7_18a_4 {β : Type} (call : CallF) (md : Bool) (k : Ex → List AV → Heap → Option β) (x7 x10 x12 x15 x16 x17 x65 x67 : AV) (h : Heap) : Option β :=
    bnd (aPick x65 x67 (.bool false)) fun v43 =>
    J7_18a_5 call md k x7 x10 x12 x15 x16 x17 v43 h
theorem g7_18a_4 {β : Type} (call : CallF) (md : Bool) (kk : List AV → Heap → Option β) (x7 x9 x10 x12 x14 x15 x16 x17 x59 x60 x61 x62 x63 x64 x65 x66 x67 : AV) (h : Heap) :
    opsK C0 call md 7 (O7 18) (((O7 18).toList.drop 8).take 2) (st 100 [(7, x7), (9, x9), (10, x10), (12, x12), (14, x14), (15, x15), (16, x16), (17, x17), (59, x59), (60, x60), (61, x61), (62, x62), (63, x63), (64, x64), (65, x65), (66, x66), (67, x67)]) h kk =
    bnd (aPick x65 x67 (.bool false)) fun v44 =>
    kk (st 100 [(7, x7), (9, x9), (10, x10), (12, x12), (14, x14), (15, x15), (16, x16), (17, x17), (59, x59), (60, x60), (61, x61), (62, x62), (63, x63), (64, x64), (65, x65), (66, x66), (67, x67), (68, v44), (69, v44)]) h
  := by kernel_rfl
theorem j7_18a_4 {β : Type} (call : CallF) (md : Bool) (k : Ex → List AV → Heap → Option β) (x7 x9 x10 x12 x14 x15 x16 x17 x59 x60 x61 x62 x63 x64 x65 x66 x67 : AV) (h : Heap) :
    opsK C0 call md 7 (O7 18) ((O7 18).toList.drop 8) (st 100 [(7, x7), (9, x9), (10, x10), (12, x12), (14, x14), (15, x15), (16, x16), (17, x17), (59, x59), (60, x60), (61, x61), (62, x62), (63, x63), (64, x64), (65, x65), (66, x66), (67, x67)]) h (fun tm h => k .normal (clr (C0.keep 7 18) tm) h) = J7_18a_4 call md k x7 x10 x12 x15 x16 x17 x65 x67 h := by
  have e : ((O7 18).toList.drop 8) = ((O7 18).toList.drop 8).take 2 ++ (O7 18).toList.drop 10 := by kernel_rfl
  rw [show opsK C0 call md 7 (O7 18) ((O7 18).toList.drop 8) = opsK C0 call md 7 (O7 18) (((O7 18).toList.drop 8).take 2 ++ (O7 18).toList.drop 10) from congrArg _ e]
  rw [opsK_append, g7_18a_4]
  simp only [j7_18a_5]
  rfl
def J7_18a_3 {β : Type} (call : CallF) (md : Bool) (k : Ex → List AV → Heap → Option β) (x7 x10 x12 x14 x15 x16 x17 x65 : AV) (h : Heap) : Option β :=
    onG true x65 (
      bnd (aBinC tab .eql 27 x14 (.int .i64 3) true) fun v45 =>
      J7_18a_4 call md k x7 x10 x12 x15 x16 x17 x65 v45 h) (
      J7_18a_4 call md k x7 x10 x12 x15 x16 x17 x65 .skip h)
theorem g7_18a_3 {β : Type} (call : CallF) (md : Bool) (kk : List AV → Heap → Option β) (x7 x9 x10 x12 x14 x15 x16 x17 x59 x60 x61 x62 x63 x64 x65 : AV) (h : Heap) :
    opsK C0 call md 7 (O7 18) (((O7 18).toList.drop 6).take 2) (st 100 [(7, x7), (9, x9), (10, x10), (12, x12), (14, x14), (15, x15), (16, x16), (17, x17), (59, x59), (60, x60), (61, x61), (62, x62), (63, x63), (64, x64), (65, x65)]) h kk =
    onG true x65 (
      bnd (aBinC tab .eql 27 x14 (.int .i64 3) true) fun v46 =>
      kk (st 100 [(7, x7), (9, x9), (10, x10), (12, x12), (14, x14), (15, x15), (16, x16), (17, x17), (59, x59), (60, x60), (61, x61), (62, x62), (63, x63), (64, x64), (65, x65), (66, x14), (67, v46)]) h) (
      kk (st 100 [(7, x7), (9, x9), (10, x10), (12, x12), (14, x14), (15, x15), (16, x16), (17, x17), (59, x59), (60, x60), (61, x61), (62, x62), (63, x63), (64, x64), (65, x65), (66, .skip), (67, .skip)]) h)
  := by cases x65 with | bool b => (cases b <;> kernel_rfl) | _ => kernel_rfl
theorem j7_18a_3 {β : Type} (call : CallF) (md : Bool) (k : Ex → List AV → Heap → Option β) (x7 x9 x10 x12 x14 x15 x16 x17 x59 x60 x61 x62 x63 x64 x65 : AV) (h : Heap) :
    opsK C0 call md 7 (O7 18) ((O7 18).toList.drop 6) (st 100 [(7, x7), (9, x9), (10, x10), (12, x12), (14, x14), (15, x15), (16, x16), (17, x17), (59, x59), (60, x60), (61, x61), (62, x62), (63, x63), (64, x64), (65, x65)]) h (fun tm h => k .normal (clr (C0.keep 7 18) tm) h) = J7_18a_3 call md k x7 x10 x12 x14 x15 x16 x17 x65 h := by
  have e : ((O7 18).toList.drop 6) = ((O7 18).toList.drop 6).take 2 ++ (O7 18).toList.drop 8 := by kernel_rfl
  rw [show opsK C0 call md 7 (O7 18) ((O7 18).toList.drop 6) = opsK C0 call md 7 (O7 18) (((O7 18).toList.drop 6).take 2 ++ (O7 18).toList.drop 8) from congrArg _ e]
  rw [opsK_append, g7_18a_3]
  simp only [j7_18a_4]
  rfl
def J7_18a_2 {β : Type} (call : CallF) (md : Bool) (k : Ex → List AV → Heap → Option β) (x7 x10 x12 x14 x15 x16 x17 x61 x63 : AV) (h : Heap) : Option β :=
    bnd (aPick x61 x63 (.bool false)) fun v47 =>
    J7_18a_3 call md k x7 x10 x12 x14 x15 x16 x17 v47 h
theorem g7_18a_2 {β : Type} (call : CallF) (md : Bool) (kk : List AV → Heap → Option β) (x7 x9 x10 x12 x14 x15 x16 x17 x59 x60 x61 x62 x63 : AV) (h : Heap) :
    opsK C0 call md 7 (O7 18) (((O7 18).toList.drop 4).take 2) (st 100 [(7, x7), (9, x9), (10, x10), (12, x12), (14, x14), (15, x15), (16, x16), (17, x17), (59, x59), (60, x60), (61, x61), (62, x62), (63, x63)]) h kk =
    bnd (aPick x61 x63 (.bool false)) fun v48 =>
    kk (st 100 [(7, x7), (9, x9), (10, x10), (12, x12), (14, x14), (15, x15), (16, x16), (17, x17), (59, x59), (60, x60), (61, x61), (62, x62), (63, x63), (64, v48), (65, v48)]) h
  := by kernel_rfl
theorem j7_18a_2 {β : Type} (call : CallF) (md : Bool) (k : Ex → List AV → Heap → Option β) (x7 x9 x10 x12 x14 x15 x16 x17 x59 x60 x61 x62 x63 : AV) (h : Heap) :
    opsK C0 call md 7 (O7 18) ((O7 18).toList.drop 4) (st 100 [(7, x7), (9, x9), (10, x10), (12, x12), (14, x14), (15, x15), (16, x16), (17, x17), (59, x59), (60, x60), (61, x61), (62, x62), (63, x63)]) h (fun tm h => k .normal (clr (C0.keep 7 18) tm) h) = J7_18a_2 call md k x7 x10 x12 x14 x15 x16 x17 x61 x63 h := by
  have e : ((O7 18).toList.drop 4) = ((O7 18).toList.drop 4).take 2 ++ (O7 18).toList.drop 6 := by kernel_rfl
  rw [show opsK C0 call md 7 (O7 18) ((O7 18).toList.drop 4) = opsK C0 call md 7 (O7 18) (((O7 18).toList.drop 4).take 2 ++ (O7 18).toList.drop 6) from congrArg _ e]
  rw [opsK_append, g7_18a_2]
  simp only [j7_18a_3]
  rfl
def J7_18a_1 {β : Type} (call : CallF) (md : Bool) (k : Ex → List AV → Heap → Option β) (x7 x9 x10 x12 x14 x15 x16 x17 x61 : AV) (h : Heap) : Option β :=
    onG true x61 (
      bnd (aBinC tab .eql 27 x9 (.int .i64 0) true) fun v49 =>
      J7_18a_2 call md k x7 x10 x12 x14 x15 x16 x17 x61 v49 h) (
      J7_18a_2 call md k x7 x10 x12 x14 x15 x16 x17 x61 .skip h)
theorem g7_18a_1 {β : Type} (call : CallF) (md : Bool) (kk : List AV → Heap → Option β) (x7 x9 x10 x12 x14 x15 x16 x17 x59 x60 x61 : AV) (h : Heap) :
    opsK C0 call md 7 (O7 18) (((O7 18).toList.drop 2).take 2) (st 100 [(7, x7), (9, x9), (10, x10), (12, x12), (14, x14), (15, x15), (16, x16), (17, x17), (59, x59), (60, x60), (61, x61)]) h kk =
    onG true x61 (
      bnd (aBinC tab .eql 27 x9 (.int .i64 0) true) fun v50 =>
      kk (st 100 [(7, x7), (9, x9), (10, x10), (12, x12), (14, x14), (15, x15), (16, x16), (17, x17), (59, x59), (60, x60), (61, x61), (62, x9), (63, v50)]) h) (
      kk (st 100 [(7, x7), (9, x9), (10, x10), (12, x12), (14, x14), (15, x15), (16, x16), (17, x17), (59, x59), (60, x60), (61, x61), (62, .skip), (63, .skip)]) h)
  := by cases x61 with | bool b => (cases b <;> kernel_rfl) | _ => kernel_rfl
theorem j7_18a_1 {β : Type} (call : CallF) (md : Bool) (k : Ex → List AV → Heap → Option β) (x7 x9 x10 x12 x14 x15 x16 x17 x59 x60 x61 : AV) (h : Heap) :
    opsK C0 call md 7 (O7 18) ((O7 18).toList.drop 2) (st 100 [(7, x7), (9, x9), (10, x10), (12, x12), (14, x14), (15, x15), (16, x16), (17, x17), (59, x59), (60, x60), (61, x61)]) h (fun tm h => k .normal (clr (C0.keep 7 18) tm) h) = J7_18a_1 call md k x7 x9 x10 x12 x14 x15 x16 x17 x61 h := by
  have e : ((O7 18).toList.drop 2) = ((O7 18).toList.drop 2).take 2 ++ (O7 18).toList.drop 4 := by kernel_rfl
  rw [show opsK C0 call md 7 (O7 18) ((O7 18).toList.drop 2) = opsK C0 call md 7 (O7 18) (((O7 18).toList.drop 2).take 2 ++ (O7 18).toList.drop 4) from congrArg _ e]
  rw [opsK_append, g7_18a_1]
  simp only [j7_18a_2]
  rfl
def J7_18a_0 {β : Type} (call : CallF) (md : Bool) (k : Ex → List AV → Heap → Option β) (x7 x9 x10 x12 x14 x15 x16 x17 : AV) (h : Heap) : Option β :=
    bnd2 (aCall call md (.fn (.func 36) []) [] h) fun v51 h52 =>
    J7_18a_1 call md k x7 x9 x10 x12 x14 x15 x16 x17 v51 h52
theorem g7_18a_0 {β : Type} (call : CallF) (md : Bool) (kk : List AV → Heap → Option β) (x7 x9 x10 x12 x14 x15 x16 x17 x59 : AV) (h : Heap) :
    opsK C0 call md 7 (O7 18) ((O7 18).toList.take 2) (st 100 [(7, x7), (9, x9), (10, x10), (12, x12), (14, x14), (15, x15), (16, x16), (17, x17), (59, x59)]) h kk =
    bnd2 (aCall call md (.fn (.func 36) []) [] h) fun v53 h54 =>
    kk (st 100 [(7, x7), (9, x9), (10, x10), (12, x12), (14, x14), (15, x15), (16, x16), (17, x17), (59, x59), (60, v53), (61, v53)]) h54
  := by kernel_rfl
theorem j7_18a_0 {β : Type} (call : CallF) (md : Bool) (k : Ex → List AV → Heap → Option β) (x7 x9 x10 x12 x14 x15 x16 x17 x59 : AV) (h : Heap) :
    opsK C0 call md 7 (O7 18) (O7 18).toList (st 100 [(7, x7), (9, x9), (10, x10), (12, x12), (14, x14), (15, x15), (16, x16), (17, x17), (59, x59)]) h (fun tm h => k .normal (clr (C0.keep 7 18) tm) h) = J7_18a_0 call md k x7 x9 x10 x12 x14 x15 x16 x17 h := by
  have e : (O7 18).toList = (O7 18).toList.take 2 ++ (O7 18).toList.drop 2 := by kernel_rfl
  rw [show opsK C0 call md 7 (O7 18) (O7 18).toList = opsK C0 call md 7 (O7 18) ((O7 18).toList.take 2 ++ (O7 18).toList.drop 2) from congrArg _ e]
  rw [opsK_append, g7_18a_0]
  simp only [j7_18a_1]
  rfl
theorem r7_18a {β : Type} (call : CallF) (md : Bool) (n : Nat) (k : Ex → List AV → Heap → Option β) (x7 x9 x10 x12 x14 x15 x16 x17 x59 : AV) (h : Heap) :
    runK C0 call md 7 n (.region 18 (O7 18) false) k (st 100 [(7, x7), (9, x9), (10, x10), (12, x12), (14, x14), (15, x15), (16, x16), (17, x17), (59, x59)]) h = J7_18a_0 call md k x7 x9 x10 x12 x14 x15 x16 x17 h := (runK_region C0 call md 7 n 18 (O7 18) k (st 100 [(7, x7), (9, x9), (10, x10), (12, x12), (14, x14), (15, x15), (16, x16), (17, x17), (59, x59)]) h).trans (j7_18a_0 call md k x7 x9 x10 x12 x14 x15 x16 x17 x59 h)
def J7_18b_14 {β : Type} (call : CallF) (md : Bool) (k : Ex → List AV → Heap → Option β) (x83 x98 : AV) (h : Heap) : Option β :=
    bnd (aPick x83 x98 (.bool false)) fun v1 =>
    k .normal (st 100 [(4, v1)]) h
theorem j7_18b_14 {β : Type} (call : CallF) (md : Bool) (k : Ex → List AV → Heap → Option β) (x7 x9 x10 x12 x14 x15 x16 x17 x60 x61 x62 x63 x64 x65 x66 x67 x68 x69 x70 x71 x72 x73 x74 x75 x76 x77 x78 x79 x80 x81 x82 x83 x84 x85 x86 x87 x88 x89 x90 x91 x92 x93 x94 x95 x96 x97 x98 : AV) (h : Heap) :
    opsK C0 call md 7 (O7 18) ((O7 18).toList.drop 39) (st 100 [(7, x7), (9, x9), (10, x10), (12, x12), (14, x14), (15, x15), (16, x16), (17, x17), (60, x60), (61, x61), (62, x62), (63, x63), (64, x64), (65, x65), (66, x66), (67, x67), (68, x68), (69, x69), (70, x70), (71, x71), (72, x72), (73, x73), (74, x74), (75, x75), (76, x76), (77, x77), (78, x78), (79, x79), (80, x80), (81, x81), (82, x82), (83, x83), (84, x84), (85, x85), (86, x86), (87, x87), (88, x88), (89, x89), (90, x90), (91, x91), (92, x92), (93, x93), (94, x94), (95, x95), (96, x96), (97, x97), (98, x98)]) h (fun tm h => k .normal (clr (C0.keep 7 18) tm) h) = J7_18b_14 call md k x83 x98 h := by kernel_rfl
def J7_18b_13 {β : Type} (call : CallF) (md : Bool) (k : Ex → List AV → Heap → Option β) (x83 x86 x97 : AV) (h : Heap) : Option β :=
    onG true x83 (
      bnd (aPick x86 (.bool true) x97) fun v3 =>
      J7_18b_14 call md k x83 v3 h) (
      J7_18b_14 call md k x83 .skip h)
theorem g7_18b_13 {β : Type} (call : CallF) (md : Bool) (kk : List AV → Heap → Option β) (x7 x9 x10 x12 x14 x15 x16 x17 x60 x61 x62 x63 x64 x65 x66 x67 x68 x69 x70 x71 x72 x73 x74 x75 x76 x77 x78 x79 x80 x81 x82 x83 x84 x85 x86 x87 x88 x89 x90 x91 x92 x93 x94 x95 x96 x97 : AV) (h : Heap) :
    opsK C0 call md 7 (O7 18) (((O7 18).toList.drop 38).take 1) (st 100 [(7, x7), (9, x9), (10, x10), (12, x12), (14, x14), (15, x15), (16, x16), (17, x17), (60, x60), (61, x61), (62, x62), (63, x63), (64, x64), (65, x65), (66, x66), (67, x67), (68, x68), (69, x69), (70, x70), (71, x71), (72, x72), (73, x73), (74, x74), (75, x75), (76, x76), (77, x77), (78, x78), (79, x79), (80, x80), (81, x81), (82, x82), (83, x83), (84, x84), (85, x85), (86, x86), (87, x87), (88, x88), (89, x89), (90, x90), (91, x91), (92, x92), (93, x93), (94, x94), (95, x95), (96, x96), (97, x97)]) h kk =
    onG true x83 (
      bnd (aPick x86 (.bool true) x97) fun v4 =>
      kk (st 100 [(7, x7), (9, x9), (10, x10), (12, x12), (14, x14), (15, x15), (16, x16), (17, x17), (60, x60), (61, x61), (62, x62), (63, x63), (64, x64), (65, x65), (66, x66), (67, x67), (68, x68), (69, x69), (70, x70), (71, x71), (72, x72), (73, x73), (74, x74), (75, x75), (76, x76), (77, x77), (78, x78), (79, x79), (80, x80), (81, x81), (82, x82), (83, x83), (84, x84), (85, x85), (86, x86), (87, x87), (88, x88), (89, x89), (90, x90), (91, x91), (92, x92), (93, x93), (94, x94), (95, x95), (96, x96), (97, x97), (98, v4)]) h) (
      kk (st 100 [(7, x7), (9, x9), (10, x10), (12, x12), (14, x14), (15, x15), (16, x16), (17, x17), (60, x60), (61, x61), (62, x62), (63, x63), (64, x64), (65, x65), (66, x66), (67, x67), (68, x68), (69, x69), (70, x70), (71, x71), (72, x72), (73, x73), (74, x74), (75, x75), (76, x76), (77, x77), (78, x78), (79, x79), (80, x80), (81, x81), (82, x82), (83, x83), (84, x84), (85, x85), (86, x86), (87, x87), (88, x88), (89, x89), (90, x90), (91, x91), (92, x92), (93, x93), (94, x94), (95, x95), (96, x96), (97, x97), (98, .skip)]) h)
  := by cases x83 with | bool b => (cases b <;> kernel_rfl) | _ => kernel_rfl
theorem j7_18b_13 {β : Type} (call : CallF) (md : Bool) (k : Ex → List AV → Heap → Option β) (x7 x9 x10 x12 x14 x15 x16 x17 x60 x61 x62 x63 x64 x65 x66 x67 x68 x69 x70 x71 x72 x73 x74 x75 x76 x77 x78 x79 x80 x81 x82 x83 x84 x85 x86 x87 x88 x89 x90 x91 x92 x93 x94 x95 x96 x97 : AV) (h : Heap) :
    opsK C0 call md 7 (O7 18) ((O7 18).toList.drop 38) (st 100 [(7, x7), (9, x9), (10, x10), (12, x12), (14, x14), (15, x15), (16, x16), (17, x17), (60, x60), (61, x61), (62, x62), (63, x63), (64, x64), (65, x65), (66, x66), (67, x67), (68, x68), (69, x69), (70, x70), (71, x71), (72, x72), (73, x73), (74, x74), (75, x75), (76, x76), (77, x77), (78, x78), (79, x79), (80, x80), (81, x81), (82, x82), (83, x83), (84, x84), (85, x85), (86, x86), (87, x87), (88, x88), (89, x89), (90, x90), (91, x91), (92, x92), (93, x93), (94, x94), (95, x95), (96, x96), (97, x97)]) h (fun tm h => k .normal (clr (C0.keep 7 18) tm) h) = J7_18b_13 call md k x83 x86 x97 h := by
  have e : ((O7 18).toList.drop 38) = ((O7 18).toList.drop 38).take 1 ++ (O7 18).toList.drop 39 := by kernel_rfl
  rw [show opsK C0 call md 7 (O7 18) ((O7 18).toList.drop 38) = opsK C0 call md 7 (O7 18) (((O7 18).toList.drop 38).take 1 ++ (O7 18).toList.drop 39) from congrArg _ e]
  rw [opsK_append, g7_18b_13]
  simp only [j7_18b_14]
  rfl
def J7_18b_12 {β : Type} (call : CallF) (md : Bool) (k : Ex → List AV → Heap → Option β) (x83 x86 x90 x96 : AV) (h : Heap) : Option β :=
    onG false x86 (
      bnd (aPick x90 x96 (.bool false)) fun v5 =>
      J7_18b_13 call md k x83 x86 v5 h) (
      J7_18b_13 call md k x83 x86 .skip h)
theorem g7_18b_12 {β : Type} (call : CallF) (md : Bool) (kk : List AV → Heap → Option β) (x7 x9 x10 x12 x14 x15 x16 x17 x60 x61 x62 x63 x64 x65 x66 x67 x68 x69 x70 x71 x72 x73 x74 x75 x76 x77 x78 x79 x80 x81 x82 x83 x84 x85 x86 x87 x88 x89 x90 x91 x92 x93 x94 x95 x96 : AV) (h : Heap) :
    opsK C0 call md 7 (O7 18) (((O7 18).toList.drop 37).take 1) (st 100 [(7, x7), (9, x9), (10, x10), (12, x12), (14, x14), (15, x15), (16, x16), (17, x17), (60, x60), (61, x61), (62, x62), (63, x63), (64, x64), (65, x65), (66, x66), (67, x67), (68, x68), (69, x69), (70, x70), (71, x71), (72, x72), (73, x73), (74, x74), (75, x75), (76, x76), (77, x77), (78, x78), (79, x79), (80, x80), (81, x81), (82, x82), (83, x83), (84, x84), (85, x85), (86, x86), (87, x87), (88, x88), (89, x89), (90, x90), (91, x91), (92, x92), (93, x93), (94, x94), (95, x95), (96, x96)]) h kk =
    onG false x86 (
      bnd (aPick x90 x96 (.bool false)) fun v6 =>
      kk (st 100 [(7, x7), (9, x9), (10, x10), (12, x12), (14, x14), (15, x15), (16, x16), (17, x17), (60, x60), (61, x61), (62, x62), (63, x63), (64, x64), (65, x65), (66, x66), (67, x67), (68, x68), (69, x69), (70, x70), (71, x71), (72, x72), (73, x73), (74, x74), (75, x75), (76, x76), (77, x77), (78, x78), (79, x79), (80, x80), (81, x81), (82, x82), (83, x83), (84, x84), (85, x85), (86, x86), (87, x87), (88, x88), (89, x89), (90, x90), (91, x91), (92, x92), (93, x93), (94, x94), (95, x95), (96, x96), (97, v6)]) h) (
      kk (st 100 [(7, x7), (9, x9), (10, x10), (12, x12), (14, x14), (15, x15), (16, x16), (17, x17), (60, x60), (61, x61), (62, x62), (63, x63), (64, x64), (65, x65), (66, x66), (67, x67), (68, x68), (69, x69), (70, x70), (71, x71), (72, x72), (73, x73), (74, x74), (75, x75), (76, x76), (77, x77), (78, x78), (79, x79), (80, x80), (81, x81), (82, x82), (83, x83), (84, x84), (85, x85), (86, x86), (87, x87), (88, x88), (89, x89), (90, x90), (91, x91), (92, x92), (93, x93), (94, x94), (95, x95), (96, x96), (97, .skip)]) h)
  := by cases x86 with | bool b => (cases b <;> kernel_rfl) | _ => kernel_rfl
theorem j7_18b_12 {β : Type} (call : CallF) (md : Bool) (k : Ex → List AV → Heap → Option β) (x7 x9 x10 x12 x14 x15 x16 x17 x60 x61 x62 x63 x64 x65 x66 x67 x68 x69 x70 x71 x72 x73 x74 x75 x76 x77 x78 x79 x80 x81 x82 x83 x84 x85 x86 x87 x88 x89 x90 x91 x92 x93 x94 x95 x96 : AV) (h : Heap) :
    opsK C0 call md 7 (O7 18) ((O7 18).toList.drop 37) (st 100 [(7, x7), (9, x9), (10, x10), (12, x12), (14, x14), (15, x15), (16, x16), (17, x17), (60, x60), (61, x61), (62, x62), (63, x63), (64, x64), (65, x65), (66, x66), (67, x67), (68, x68), (69, x69), (70, x70), (71, x71), (72, x72), (73, x73), (74, x74), (75, x75), (76, x76), (77, x77), (78, x78), (79, x79), (80, x80), (81, x81), (82, x82), (83, x83), (84, x84), (85, x85), (86, x86), (87, x87), (88, x88), (89, x89), (90, x90), (91, x91), (92, x92), (93, x93), (94, x94), (95, x95), (96, x96)]) h (fun tm h => k .normal (clr (C0.keep 7 18) tm) h) = J7_18b_12 call md k x83 x86 x90 x96 h := by
  have e : ((O7 18).toList.drop 37) = ((O7 18).toList.drop 37).take 1 ++ (O7 18).toList.drop 38 := by kernel_rfl
  rw [show opsK C0 call md 7 (O7 18) ((O7 18).toList.drop 37) = opsK C0 call md 7 (O7 18) (((O7 18).toList.drop 37).take 1 ++ (O7 18).toList.drop 38) from congrArg _ e]
  rw [opsK_append, g7_18b_12]
  simp only [j7_18b_13]
  rfl
def J7_18b_11 {β : Type} (call : CallF) (md : Bool) (k : Ex → List AV → Heap → Option β) (x7 x10 x83 x86 x90 : AV) (h : Heap) : Option β :=
    onG true x90 (
      bnd2 (aCall call md (.fn (.func 34) []) [x7] h) fun v7 h8 =>
      bnd2 (aCall call md (.fn (.func 32) []) [(.int .i64 1), x10] h8) fun v9 h10 =>
      bnd (aLen tab 30 v9) fun v11 =>
      bnd (aBinC tab .eql 3 v7 v11 false) fun v12 =>
      J7_18b_12 call md k x83 x86 x90 v12 h10) (
      J7_18b_12 call md k x83 x86 x90 .skip h)
theorem g7_18b_11 {β : Type} (call : CallF) (md : Bool) (kk : List AV → Heap → Option β) (x7 x9 x10 x12 x14 x15 x16 x17 x60 x61 x62 x63 x64 x65 x66 x67 x68 x69 x70 x71 x72 x73 x74 x75 x76 x77 x78 x79 x80 x81 x82 x83 x84 x85 x86 x87 x88 x89 x90 : AV) (h : Heap) :
    opsK C0 call md 7 (O7 18) (((O7 18).toList.drop 31).take 6) (st 100 [(7, x7), (9, x9), (10, x10), (12, x12), (14, x14), (15, x15), (16, x16), (17, x17), (60, x60), (61, x61), (62, x62), (63, x63), (64, x64), (65, x65), (66, x66), (67, x67), (68, x68), (69, x69), (70, x70), (71, x71), (72, x72), (73, x73), (74, x74), (75, x75), (76, x76), (77, x77), (78, x78), (79, x79), (80, x80), (81, x81), (82, x82), (83, x83), (84, x84), (85, x85), (86, x86), (87, x87), (88, x88), (89, x89), (90, x90)]) h kk =
    onG true x90 (
      bnd2 (aCall call md (.fn (.func 34) []) [x7] h) fun v13 h14 =>
      bnd2 (aCall call md (.fn (.func 32) []) [(.int .i64 1), x10] h14) fun v15 h16 =>
      bnd (aLen tab 30 v15) fun v17 =>
      bnd (aBinC tab .eql 3 v13 v17 false) fun v18 =>
      kk (st 100 [(7, x7), (9, x9), (10, x10), (12, x12), (14, x14), (15, x15), (16, x16), (17, x17), (60, x60), (61, x61), (62, x62), (63, x63), (64, x64), (65, x65), (66, x66), (67, x67), (68, x68), (69, x69), (70, x70), (71, x71), (72, x72), (73, x73), (74, x74), (75, x75), (76, x76), (77, x77), (78, x78), (79, x79), (80, x80), (81, x81), (82, x82), (83, x83), (84, x84), (85, x85), (86, x86), (87, x87), (88, x88), (89, x89), (90, x90), (91, x7), (92, v13), (93, x10), (94, v15), (95, v17), (96, v18)]) h16) (
      kk (st 100 [(7, x7), (9, x9), (10, x10), (12, x12), (14, x14), (15, x15), (16, x16), (17, x17), (60, x60), (61, x61), (62, x62), (63, x63), (64, x64), (65, x65), (66, x66), (67, x67), (68, x68), (69, x69), (70, x70), (71, x71), (72, x72), (73, x73), (74, x74), (75, x75), (76, x76), (77, x77), (78, x78), (79, x79), (80, x80), (81, x81), (82, x82), (83, x83), (84, x84), (85, x85), (86, x86), (87, x87), (88, x88), (89, x89), (90, x90), (91, .skip), (92, .skip), (93, .skip), (94, .skip), (95, .skip), (96, .skip)]) h)
  := by cases x90 with | bool b => (cases b <;> kernel_rfl) | _ => kernel_rfl
theorem j7_18b_11 {β : Type} (call : CallF) (md : Bool) (k : Ex → List AV → Heap → Option β) (x7 x9 x10 x12 x14 x15 x16 x17 x60 x61 x62 x63 x64 x65 x66 x67 x68 x69 x70 x71 x72 x73 x74 x75 x76 x77 x78 x79 x80 x81 x82 x83 x84 x85 x86 x87 x88 x89 x90 : AV) (h : Heap) :
    opsK C0 call md 7 (O7 18) ((O7 18).toList.drop 31) (st 100 [(7, x7), (9, x9), (10, x10), (12, x12), (14, x14), (15, x15), (16, x16), (17, x17), (60, x60), (61, x61), (62, x62), (63, x63), (64, x64), (65, x65), (66, x66), (67, x67), (68, x68), (69, x69), (70, x70), (71, x71), (72, x72), (73, x73), (74, x74), (75, x75), (76, x76), (77, x77), (78, x78), (79, x79), (80, x80), (81, x81), (82, x82), (83, x83), (84, x84), (85, x85), (86, x86), (87, x87), (88, x88), (89, x89), (90, x90)]) h (fun tm h => k .normal (clr (C0.keep 7 18) tm) h) = J7_18b_11 call md k x7 x10 x83 x86 x90 h := by
  have e : ((O7 18).toList.drop 31) = ((O7 18).toList.drop 31).take 6 ++ (O7 18).toList.drop 37 := by kernel_rfl
  rw [show opsK C0 call md 7 (O7 18) ((O7 18).toList.drop 31) = opsK C0 call md 7 (O7 18) (((O7 18).toList.drop 31).take 6 ++ (O7 18).toList.drop 37) from congrArg _ e]
  rw [opsK_append, g7_18b_11]
  simp only [j7_18b_12]
  rfl
def J7_18b_10 {β : Type} (call : CallF) (md : Bool) (k : Ex → List AV → Heap → Option β) (x7 x10 x83 x86 : AV) (h : Heap) : Option β :=
    onG false x86 (
      bnd2 (aCall call md (.fn (.func 37) []) [x7] h) fun v19 h20 =>
      bnd (aBinC tab .eql 3 v19 (.int .i64 2) true) fun v21 =>
      J7_18b_11 call md k x7 x10 x83 x86 v21 h20) (
      J7_18b_11 call md k x7 x10 x83 x86 .skip h)
theorem g7_18b_10 {β : Type} (call : CallF) (md : Bool) (kk : List AV → Heap → Option β) (x7 x9 x10 x12 x14 x15 x16 x17 x60 x61 x62 x63 x64 x65 x66 x67 x68 x69 x70 x71 x72 x73 x74 x75 x76 x77 x78 x79 x80 x81 x82 x83 x84 x85 x86 : AV) (h : Heap) :
    opsK C0 call md 7 (O7 18) (((O7 18).toList.drop 27).take 4) (st 100 [(7, x7), (9, x9), (10, x10), (12, x12), (14, x14), (15, x15), (16, x16), (17, x17), (60, x60), (61, x61), (62, x62), (63, x63), (64, x64), (65, x65), (66, x66), (67, x67), (68, x68), (69, x69), (70, x70), (71, x71), (72, x72), (73, x73), (74, x74), (75, x75), (76, x76), (77, x77), (78, x78), (79, x79), (80, x80), (81, x81), (82, x82), (83, x83), (84, x84), (85, x85), (86, x86)]) h kk =
    onG false x86 (
      bnd2 (aCall call md (.fn (.func 37) []) [x7] h) fun v22 h23 =>
      bnd (aBinC tab .eql 3 v22 (.int .i64 2) true) fun v24 =>
      kk (st 100 [(7, x7), (9, x9), (10, x10), (12, x12), (14, x14), (15, x15), (16, x16), (17, x17), (60, x60), (61, x61), (62, x62), (63, x63), (64, x64), (65, x65), (66, x66), (67, x67), (68, x68), (69, x69), (70, x70), (71, x71), (72, x72), (73, x73), (74, x74), (75, x75), (76, x76), (77, x77), (78, x78), (79, x79), (80, x80), (81, x81), (82, x82), (83, x83), (84, x84), (85, x85), (86, x86), (87, x7), (88, v22), (89, v24), (90, v24)]) h23) (
      kk (st 100 [(7, x7), (9, x9), (10, x10), (12, x12), (14, x14), (15, x15), (16, x16), (17, x17), (60, x60), (61, x61), (62, x62), (63, x63), (64, x64), (65, x65), (66, x66), (67, x67), (68, x68), (69, x69), (70, x70), (71, x71), (72, x72), (73, x73), (74, x74), (75, x75), (76, x76), (77, x77), (78, x78), (79, x79), (80, x80), (81, x81), (82, x82), (83, x83), (84, x84), (85, x85), (86, x86), (87, .skip), (88, .skip), (89, .skip), (90, .skip)]) h)
  := by cases x86 with | bool b => (cases b <;> kernel_rfl) | _ => kernel_rfl
theorem j7_18b_10 {β : Type} (call : CallF) (md : Bool) (k : Ex → List AV → Heap → Option β) (x7 x9 x10 x12 x14 x15 x16 x17 x60 x61 x62 x63 x64 x65 x66 x67 x68 x69 x70 x71 x72 x73 x74 x75 x76 x77 x78 x79 x80 x81 x82 x83 x84 x85 x86 : AV) (h : Heap) :
    opsK C0 call md 7 (O7 18) ((O7 18).toList.drop 27) (st 100 [(7, x7), (9, x9), (10, x10), (12, x12), (14, x14), (15, x15), (16, x16), (17, x17), (60, x60), (61, x61), (62, x62), (63, x63), (64, x64), (65, x65), (66, x66), (67, x67), (68, x68), (69, x69), (70, x70), (71, x71), (72, x72), (73, x73), (74, x74), (75, x75), (76, x76), (77, x77), (78, x78), (79, x79), (80, x80), (81, x81), (82, x82), (83, x83), (84, x84), (85, x85), (86, x86)]) h (fun tm h => k .normal (clr (C0.keep 7 18) tm) h) = J7_18b_10 call md k x7 x10 x83 x86 h := by
  have e : ((O7 18).toList.drop 27) = ((O7 18).toList.drop 27).take 4 ++ (O7 18).toList.drop 31 := by kernel_rfl
  rw [show opsK C0 call md 7 (O7 18) ((O7 18).toList.drop 27) = opsK C0 call md 7 (O7 18) (((O7 18).toList.drop 27).take 4 ++ (O7 18).toList.drop 31) from congrArg _ e]
  rw [opsK_append, g7_18b_10]
  simp only [j7_18b_11]
  rfl
def J7_18b_9 {β : Type} (call : CallF) (md : Bool) (k : Ex → List AV → Heap → Option β) (x7 x10 x16 x83 : AV) (h : Heap) : Option β :=
    onG true x83 (
      bnd (aBinC tab .neq 27 x16 (.int .i64 0) true) fun v25 =>
      J7_18b_10 call md k x7 x10 x83 v25 h) (
      J7_18b_10 call md k x7 x10 x83 .skip h)
theorem g7_18b_9 {β : Type} (call : CallF) (md : Bool) (kk : List AV → Heap → Option β) (x7 x9 x10 x12 x14 x15 x16 x17 x60 x61 x62 x63 x64 x65 x66 x67 x68 x69 x70 x71 x72 x73 x74 x75 x76 x77 x78 x79 x80 x81 x82 x83 : AV) (h : Heap) :
    opsK C0 call md 7 (O7 18) (((O7 18).toList.drop 24).take 3) (st 100 [(7, x7), (9, x9), (10, x10), (12, x12), (14, x14), (15, x15), (16, x16), (17, x17), (60, x60), (61, x61), (62, x62), (63, x63), (64, x64), (65, x65), (66, x66), (67, x67), (68, x68), (69, x69), (70, x70), (71, x71), (72, x72), (73, x73), (74, x74), (75, x75), (76, x76), (77, x77), (78, x78), (79, x79), (80, x80), (81, x81), (82, x82), (83, x83)]) h kk =
    onG true x83 (
      bnd (aBinC tab .neq 27 x16 (.int .i64 0) true) fun v26 =>
      kk (st 100 [(7, x7), (9, x9), (10, x10), (12, x12), (14, x14), (15, x15), (16, x16), (17, x17), (60, x60), (61, x61), (62, x62), (63, x63), (64, x64), (65, x65), (66, x66), (67, x67), (68, x68), (69, x69), (70, x70), (71, x71), (72, x72), (73, x73), (74, x74), (75, x75), (76, x76), (77, x77), (78, x78), (79, x79), (80, x80), (81, x81), (82, x82), (83, x83), (84, x16), (85, v26), (86, v26)]) h) (
      kk (st 100 [(7, x7), (9, x9), (10, x10), (12, x12), (14, x14), (15, x15), (16, x16), (17, x17), (60, x60), (61, x61), (62, x62), (63, x63), (64, x64), (65, x65), (66, x66), (67, x67), (68, x68), (69, x69), (70, x70), (71, x71), (72, x72), (73, x73), (74, x74), (75, x75), (76, x76), (77, x77), (78, x78), (79, x79), (80, x80), (81, x81), (82, x82), (83, x83), (84, .skip), (85, .skip), (86, .skip)]) h)
  := by cases x83 with | bool b => (cases b <;> kernel_rfl) | _ => kernel_rfl
theorem j7_18b_9 {β : Type} (call : CallF) (md : Bool) (k : Ex → List AV → Heap → Option β) (x7 x9 x10 x12 x14 x15 x16 x17 x60 x61 x62 x63 x64 x65 x66 x67 x68 x69 x70 x71 x72 x73 x74 x75 x76 x77 x78 x79 x80 x81 x82 x83 : AV) (h : Heap) :
    opsK C0 call md 7 (O7 18) ((O7 18).toList.drop 24) (st 100 [(7, x7), (9, x9), (10, x10), (12, x12), (14, x14), (15, x15), (16, x16), (17, x17), (60, x60), (61, x61), (62, x62), (63, x63), (64, x64), (65, x65), (66, x66), (67, x67), (68, x68), (69, x69), (70, x70), (71, x71), (72, x72), (73, x73), (74, x74), (75, x75), (76, x76), (77, x77), (78, x78), (79, x79), (80, x80), (81, x81), (82, x82), (83, x83)]) h (fun tm h => k .normal (clr (C0.keep 7 18) tm) h) = J7_18b_9 call md k x7 x10 x16 x83 h := by
  have e : ((O7 18).toList.drop 24) = ((O7 18).toList.drop 24).take 3 ++ (O7 18).toList.drop 27 := by kernel_rfl
  rw [show opsK C0 call md 7 (O7 18) ((O7 18).toList.drop 24) = opsK C0 call md 7 (O7 18) (((O7 18).toList.drop 24).take 3 ++ (O7 18).toList.drop 27) from congrArg _ e]
  rw [opsK_append, g7_18b_9]
  simp only [j7_18b_10]
  rfl
def J7_18b_8 {β : Type} (call : CallF) (md : Bool) (k : Ex → List AV → Heap → Option β) (x7 x10 x16 x78 x81 : AV) (h : Heap) : Option β :=
    bnd (aPick x78 x81 (.bool false)) fun v27 =>
    J7_18b_9 call md k x7 x10 x16 v27 h
theorem g7_18b_8 {β : Type} (call : CallF) (md : Bool) (kk : List AV → Heap → Option β) (x7 x9 x10 x12 x14 x15 x16 x17 x60 x61 x62 x63 x64 x65 x66 x67 x68 x69 x70 x71 x72 x73 x74 x75 x76 x77 x78 x79 x80 x81 : AV) (h : Heap) :
    opsK C0 call md 7 (O7 18) (((O7 18).toList.drop 22).take 2) (st 100 [(7, x7), (9, x9), (10, x10), (12, x12), (14, x14), (15, x15), (16, x16), (17, x17), (60, x60), (61, x61), (62, x62), (63, x63), (64, x64), (65, x65), (66, x66), (67, x67), (68, x68), (69, x69), (70, x70), (71, x71), (72, x72), (73, x73), (74, x74), (75, x75), (76, x76), (77, x77), (78, x78), (79, x79), (80, x80), (81, x81)]) h kk =
    bnd (aPick x78 x81 (.bool false)) fun v28 =>
    kk (st 100 [(7, x7), (9, x9), (10, x10), (12, x12), (14, x14), (15, x15), (16, x16), (17, x17), (60, x60), (61, x61), (62, x62), (63, x63), (64, x64), (65, x65), (66, x66), (67, x67), (68, x68), (69, x69), (70, x70), (71, x71), (72, x72), (73, x73), (74, x74), (75, x75), (76, x76), (77, x77), (78, x78), (79, x79), (80, x80), (81, x81), (82, v28), (83, v28)]) h
  := by kernel_rfl
theorem j7_18b_8 {β : Type} (call : CallF) (md : Bool) (k : Ex → List AV → Heap → Option β) (x7 x9 x10 x12 x14 x15 x16 x17 x60 x61 x62 x63 x64 x65 x66 x67 x68 x69 x70 x71 x72 x73 x74 x75 x76 x77 x78 x79 x80 x81 : AV) (h : Heap) :
    opsK C0 call md 7 (O7 18) ((O7 18).toList.drop 22) (st 100 [(7, x7), (9, x9), (10, x10), (12, x12), (14, x14), (15, x15), (16, x16), (17, x17), (60, x60), (61, x61), (62, x62), (63, x63), (64, x64), (65, x65), (66, x66), (67, x67), (68, x68), (69, x69), (70, x70), (71, x71), (72, x72), (73, x73), (74, x74), (75, x75), (76, x76), (77, x77), (78, x78), (79, x79), (80, x80), (81, x81)]) h (fun tm h => k .normal (clr (C0.keep 7 18) tm) h) = J7_18b_8 call md k x7 x10 x16 x78 x81 h := by
  have e : ((O7 18).toList.drop 22) = ((O7 18).toList.drop 22).take 2 ++ (O7 18).toList.drop 24 := by kernel_rfl
  rw [show opsK C0 call md 7 (O7 18) ((O7 18).toList.drop 22) = opsK C0 call md 7 (O7 18) (((O7 18).toList.drop 22).take 2 ++ (O7 18).toList.drop 24) from congrArg _ e]
  rw [opsK_append, g7_18b_8]
  simp only [j7_18b_9]
  rfl
def J7_18b_7 {β : Type} (call : CallF) (md : Bool) (k : Ex → List AV → Heap → Option β) (x7 x10 x16 x17 x78 : AV) (h : Heap) : Option β :=
    onG true x78 (
      bnd (aBinC tab .eql 27 x16 x17 false) fun v29 =>
      J7_18b_8 call md k x7 x10 x16 x78 v29 h) (
      J7_18b_8 call md k x7 x10 x16 x78 .skip h)
theorem g7_18b_7 {β : Type} (call : CallF) (md : Bool) (kk : List AV → Heap → Option β) (x7 x9 x10 x12 x14 x15 x16 x17 x60 x61 x62 x63 x64 x65 x66 x67 x68 x69 x70 x71 x72 x73 x74 x75 x76 x77 x78 : AV) (h : Heap) :
    opsK C0 call md 7 (O7 18) (((O7 18).toList.drop 19).take 3) (st 100 [(7, x7), (9, x9), (10, x10), (12, x12), (14, x14), (15, x15), (16, x16), (17, x17), (60, x60), (61, x61), (62, x62), (63, x63), (64, x64), (65, x65), (66, x66), (67, x67), (68, x68), (69, x69), (70, x70), (71, x71), (72, x72), (73, x73), (74, x74), (75, x75), (76, x76), (77, x77), (78, x78)]) h kk =
    onG true x78 (
      bnd (aBinC tab .eql 27 x16 x17 false) fun v30 =>
      kk (st 100 [(7, x7), (9, x9), (10, x10), (12, x12), (14, x14), (15, x15), (16, x16), (17, x17), (60, x60), (61, x61), (62, x62), (63, x63), (64, x64), (65, x65), (66, x66), (67, x67), (68, x68), (69, x69), (70, x70), (71, x71), (72, x72), (73, x73), (74, x74), (75, x75), (76, x76), (77, x77), (78, x78), (79, x16), (80, x17), (81, v30)]) h) (
      kk (st 100 [(7, x7), (9, x9), (10, x10), (12, x12), (14, x14), (15, x15), (16, x16), (17, x17), (60, x60), (61, x61), (62, x62), (63, x63), (64, x64), (65, x65), (66, x66), (67, x67), (68, x68), (69, x69), (70, x70), (71, x71), (72, x72), (73, x73), (74, x74), (75, x75), (76, x76), (77, x77), (78, x78), (79, .skip), (80, .skip), (81, .skip)]) h)
  := by cases x78 with | bool b => (cases b <;> kernel_rfl) | _ => kernel_rfl
theorem j7_18b_7 {β : Type} (call : CallF) (md : Bool) (k : Ex → List AV → Heap → Option β) (x7 x9 x10 x12 x14 x15 x16 x17 x60 x61 x62 x63 x64 x65 x66 x67 x68 x69 x70 x71 x72 x73 x74 x75 x76 x77 x78 : AV) (h : Heap) :
    opsK C0 call md 7 (O7 18) ((O7 18).toList.drop 19) (st 100 [(7, x7), (9, x9), (10, x10), (12, x12), (14, x14), (15, x15), (16, x16), (17, x17), (60, x60), (61, x61), (62, x62), (63, x63), (64, x64), (65, x65), (66, x66), (67, x67), (68, x68), (69, x69), (70, x70), (71, x71), (72, x72), (73, x73), (74, x74), (75, x75), (76, x76), (77, x77), (78, x78)]) h (fun tm h => k .normal (clr (C0.keep 7 18) tm) h) = J7_18b_7 call md k x7 x10 x16 x17 x78 h := by
  have e : ((O7 18).toList.drop 19) = ((O7 18).toList.drop 19).take 3 ++ (O7 18).toList.drop 22 := by kernel_rfl
  rw [show opsK C0 call md 7 (O7 18) ((O7 18).toList.drop 19) = opsK C0 call md 7 (O7 18) (((O7 18).toList.drop 19).take 3 ++ (O7 18).toList.drop 22) from congrArg _ e]
  rw [opsK_append, g7_18b_7]
  simp only [j7_18b_8]
  rfl
def J7_18b_6 {β : Type} (call : CallF) (md : Bool) (k : Ex → List AV → Heap → Option β) (x7 x10 x16 x17 x69 x76 : AV) (h : Heap) : Option β :=
    bnd (aPick x69 x76 (.bool false)) fun v31 =>
    J7_18b_7 call md k x7 x10 x16 x17 v31 h
theorem g7_18b_6 {β : Type} (call : CallF) (md : Bool) (kk : List AV → Heap → Option β) (x7 x9 x10 x12 x14 x15 x16 x17 x60 x61 x62 x63 x64 x65 x66 x67 x68 x69 x70 x71 x72 x73 x74 x75 x76 : AV) (h : Heap) :
    opsK C0 call md 7 (O7 18) (((O7 18).toList.drop 17).take 2) (st 100 [(7, x7), (9, x9), (10, x10), (12, x12), (14, x14), (15, x15), (16, x16), (17, x17), (60, x60), (61, x61), (62, x62), (63, x63), (64, x64), (65, x65), (66, x66), (67, x67), (68, x68), (69, x69), (70, x70), (71, x71), (72, x72), (73, x73), (74, x74), (75, x75), (76, x76)]) h kk =
    bnd (aPick x69 x76 (.bool false)) fun v32 =>
    kk (st 100 [(7, x7), (9, x9), (10, x10), (12, x12), (14, x14), (15, x15), (16, x16), (17, x17), (60, x60), (61, x61), (62, x62), (63, x63), (64, x64), (65, x65), (66, x66), (67, x67), (68, x68), (69, x69), (70, x70), (71, x71), (72, x72), (73, x73), (74, x74), (75, x75), (76, x76), (77, v32), (78, v32)]) h
  := by kernel_rfl
theorem j7_18b_6 {β : Type} (call : CallF) (md : Bool) (k : Ex → List AV → Heap → Option β) (x7 x9 x10 x12 x14 x15 x16 x17 x60 x61 x62 x63 x64 x65 x66 x67 x68 x69 x70 x71 x72 x73 x74 x75 x76 : AV) (h : Heap) :
    opsK C0 call md 7 (O7 18) ((O7 18).toList.drop 17) (st 100 [(7, x7), (9, x9), (10, x10), (12, x12), (14, x14), (15, x15), (16, x16), (17, x17), (60, x60), (61, x61), (62, x62), (63, x63), (64, x64), (65, x65), (66, x66), (67, x67), (68, x68), (69, x69), (70, x70), (71, x71), (72, x72), (73, x73), (74, x74), (75, x75), (76, x76)]) h (fun tm h => k .normal (clr (C0.keep 7 18) tm) h) = J7_18b_6 call md k x7 x10 x16 x17 x69 x76 h := by
  have e : ((O7 18).toList.drop 17) = ((O7 18).toList.drop 17).take 2 ++ (O7 18).toList.drop 19 := by kernel_rfl
  rw [show opsK C0 call md 7 (O7 18) ((O7 18).toList.drop 17) = opsK C0 call md 7 (O7 18) (((O7 18).toList.drop 17).take 2 ++ (O7 18).toList.drop 19) from congrArg _ e]
  rw [opsK_append, g7_18b_6]
  simp only [j7_18b_7]
  rfl
def J7_18b_5 {β : Type} (call : CallF) (md : Bool) (k : Ex → List AV → Heap → Option β) (x7 x10 x12 x15 x16 x17 x69 : AV) (h : Heap) : Option β :=
    onG true x69 (
      bnd2 (aCall call md (.fn (.func 32) []) [(.int .i64 1), x10] h) fun v33 h34 =>
      bnd (aLen tab 30 v33) fun v35 =>
      bnd (aBinC tab .mul 3 x12 v35 false) fun v36 =>
      bnd (aBinC tab .eql 3 x15 v36 false) fun v37 =>
      J7_18b_6 call md k x7 x10 x16 x17 x69 v37 h34) (
      J7_18b_6 call md k x7 x10 x16 x17 x69 .skip h)
theorem g7_18b_5 {β : Type} (call : CallF) (md : Bool) (kk : List AV → Heap → Option β) (x7 x9 x10 x12 x14 x15 x16 x17 x60 x61 x62 x63 x64 x65 x66 x67 x68 x69 : AV) (h : Heap) :
    opsK C0 call md 7 (O7 18) (((O7 18).toList.drop 10).take 7) (st 100 [(7, x7), (9, x9), (10, x10), (12, x12), (14, x14), (15, x15), (16, x16), (17, x17), (60, x60), (61, x61), (62, x62), (63, x63), (64, x64), (65, x65), (66, x66), (67, x67), (68, x68), (69, x69)]) h kk =
    onG true x69 (
      bnd2 (aCall call md (.fn (.func 32) []) [(.int .i64 1), x10] h) fun v38 h39 =>
      bnd (aLen tab 30 v38) fun v40 =>
      bnd (aBinC tab .mul 3 x12 v40 false) fun v41 =>
      bnd (aBinC tab .eql 3 x15 v41 false) fun v42 =>
      kk (st 100 [(7, x7), (9, x9), (10, x10), (12, x12), (14, x14), (15, x15), (16, x16), (17, x17), (60, x60), (61, x61), (62, x62), (63, x63), (64, x64), (65, x65), (66, x66), (67, x67), (68, x68), (69, x69), (70, x15), (71, x12), (72, x10), (73, v38), (74, v40), (75, v41), (76, v42)]) h39) (
      kk (st 100 [(7, x7), (9, x9), (10, x10), (12, x12), (14, x14), (15, x15), (16, x16), (17, x17), (60, x60), (61, x61), (62, x62), (63, x63), (64, x64), (65, x65), (66, x66), (67, x67), (68, x68), (69, x69), (70, .skip), (71, .skip), (72, .skip), (73, .skip), (74, .skip), (75, .skip), (76, .skip)]) h)
  := by cases x69 with | bool b => (cases b <;> kernel_rfl) | _ => kernel_rfl
theorem j7_18b_5 {β : Type} (call : CallF) (md : Bool) (k : Ex → List AV → Heap → Option β) (x7 x9 x10 x12 x14 x15 x16 x17 x60 x61 x62 x63 x64 x65 x66 x67 x68 x69 : AV) (h : Heap) :
    opsK C0 call md 7 (O7 18) ((O7 18).toList.drop 10) (st 100 [(7, x7), (9, x9), (10, x10), (12, x12), (14, x14), (15, x15), (16, x16), (17, x17), (60, x60), (61, x61), (62, x62), (63, x63), (64, x64), (65, x65), (66, x66), (67, x67), (68, x68), (69, x69)]) h (fun tm h => k .normal (clr (C0.keep 7 18) tm) h) = J7_18b_5 call md k x7 x10 x12 x15 x16 x17 x69 h := by
  have e : ((O7 18).toList.drop 10) = ((O7 18).toList.drop 10).take 7 ++ (O7 18).toList.drop 17 := by kernel_rfl
  rw [show opsK C0 call md 7 (O7 18) ((O7 18).toList.drop 10) = opsK C0 call md 7 (O7 18) (((O7 18).toList.drop 10).take 7 ++ (O7 18).toList.drop 17) from congrArg _ e]
  rw [opsK_append, g7_18b_5]
  simp only [j7_18b_6]
  rfl
def J7_18b_4 {β : Type} (call : CallF) (md : Bool) (k : Ex → List AV → Heap → Option β) (x7 x10 x12 x15 x16 x17 x65 x67 : AV) (h : Heap) : Option β :=
    bnd (aPick x65 x67 (.bool false)) fun v43 =>
    J7_18b_5 call md k x7 x10 x12 x15 x16 x17 v43 h
theorem g7_18b_4 {β : Type} (call : CallF) (md : Bool) (kk : List AV → Heap → Option β) (x7 x9 x10 x12 x14 x15 x16 x17 x60 x61 x62 x63 x64 x65 x66 x67 : AV) (h : Heap) :
    opsK C0 call md 7 (O7 18) (((O7 18).toList.drop 8).take 2) (st 100 [(7, x7), (9, x9), (10, x10), (12, x12), (14, x14), (15, x15), (16, x16), (17, x17), (60, x60), (61, x61), (62, x62), (63, x63), (64, x64), (65, x65), (66, x66), (67, x67)]) h kk =
    bnd (aPick x65 x67 (.bool false)) fun v44 =>
    kk (st 100 [(7, x7), (9, x9), (10, x10), (12, x12), (14, x14), (15, x15), (16, x16), (17, x17), (60, x60), (61, x61), (62, x62), (63, x63), (64, x64), (65, x65), (66, x66), (67, x67), (68, v44), (69, v44)]) h
  := by kernel_rfl
theorem j7_18b_4 {β : Type} (call : CallF) (md : Bool) (k : Ex → List AV → Heap → Option β) (x7 x9 x10 x12 x14 x15 x16 x17 x60 x61 x62 x63 x64 x65 x66 x67 : AV) (h : Heap) :
    opsK C0 call md 7 (O7 18) ((O7 18).toList.drop 8) (st 100 [(7, x7), (9, x9), (10, x10), (12, x12), (14, x14), (15, x15), (16, x16), (17, x17), (60, x60), (61, x61), (62, x62), (63, x63), (64, x64), (65, x65), (66, x66), (67, x67)]) h (fun tm h => k .normal (clr (C0.keep 7 18) tm) h) = J7_18b_4 call md k x7 x10 x12 x15 x16 x17 x65 x67 h := by
  have e : ((O7 18).toList.drop 8) = ((O7 18).toList.drop 8).take 2 ++ (O7 18).toList.drop 10 := by kernel_rfl
  rw [show opsK C0 call md 7 (O7 18) ((O7 18).toList.drop 8) = opsK C0 call md 7 (O7 18) (((O7 18).toList.drop 8).take 2 ++ (O7 18).toList.drop 10) from congrArg _ e]
  rw [opsK_append, g7_18b_4]
  simp only [j7_18b_5]
  rfl
def J7_18b_3 {β : Type} (call : CallF) (md : Bool) (k : Ex → List AV → Heap → Option β) (x7 x10 x12 x14 x15 x16 x17 x65 : AV) (h : Heap) : Option β :=
    onG true x65 (
      bnd (aBinC tab .eql 27 x14 (.int .i64 3) true) fun v45 =>
      J7_18b_4 call md k x7 x10 x12 x15 x16 x17 x65 v45 h) (
      J7_18b_4 call md k x7 x10 x12 x15 x16 x17 x65 .skip h)
theorem g7_18b_3 {β : Type} (call : CallF) (md : Bool) (kk : List AV → Heap → Option β) (x7 x9 x10 x12 x14 x15 x16 x17 x60 x61 x62 x63 x64 x65 : AV) (h : Heap) :
    opsK C0 call md 7 (O7 18) (((O7 18).toList.drop 6).take 2) (st 100 [(7, x7), (9, x9), (10, x10), (12, x12), (14, x14), (15, x15), (16, x16), (17, x17), (60, x60), (61, x61), (62, x62), (63, x63), (64, x64), (65, x65)]) h kk =
    onG true x65 (
      bnd (aBinC tab .eql 27 x14 (.int .i64 3) true) fun v46 =>
      kk (st 100 [(7, x7), (9, x9), (10, x10), (12, x12), (14, x14), (15, x15), (16, x16), (17, x17), (60, x60), (61, x61), (62, x62), (63, x63), (64, x64), (65, x65), (66, x14), (67, v46)]) h) (
      kk (st 100 [(7, x7), (9, x9), (10, x10), (12, x12), (14, x14), (15, x15), (16, x16), (17, x17), (60, x60), (61, x61), (62, x62), (63, x63), (64, x64), (65, x65), (66, .skip), (67, .skip)]) h)
  := by cases x65 with | bool b => (cases b <;> kernel_rfl) | _ => kernel_rfl
theorem j7_18b_3 {β : Type} (call : CallF) (md : Bool) (k : Ex → List AV → Heap → Option β) (x7 x9 x10 x12 x14 x15 x16 x17 x60 x61 x62 x63 x64 x65 : AV) (h : Heap) :
    opsK C0 call md 7 (O7 18) ((O7 18).toList.drop 6) (st 100 [(7, x7), (9, x9), (10, x10), (12, x12), (14, x14), (15, x15), (16, x16), (17, x17), (60, x60), (61, x61), (62, x62), (63, x63), (64, x64), (65, x65)]) h (fun tm h => k .normal (clr (C0.keep 7 18) tm) h) = J7_18b_3 call md k x7 x10 x12 x14 x15 x16 x17 x65 h := by
  have e : ((O7 18).toList.drop 6) = ((O7 18).toList.drop 6).take 2 ++ (O7 18).toList.drop 8 := by kernel_rfl
  rw [show opsK C0 call md 7 (O7 18) ((O7 18).toList.drop 6) = opsK C0 call md 7 (O7 18) (((O7 18).toList.drop 6).take 2 ++ (O7 18).toList.drop 8) from congrArg _ e]
  rw [opsK_append, g7_18b_3]
  simp only [j7_18b_4]
  rfl
def J7_18b_2 {β : Type} (call : CallF) (md : Bool) (k : Ex → List AV → Heap → Option β) (x7 x10 x12 x14 x15 x16 x17 x61 x63 : AV) (h : Heap) : Option β :=
    bnd (aPick x61 x63 (.bool false)) fun v47 =>
    J7_18b_3 call md k x7 x10 x12 x14 x15 x16 x17 v47 h
theorem g7_18b_2 {β : Type} (call : CallF) (md : Bool) (kk : List AV → Heap → Option β) (x7 x9 x10 x12 x14 x15 x16 x17 x60 x61 x62 x63 : AV) (h : Heap) :
    opsK C0 call md 7 (O7 18) (((O7 18).toList.drop 4).take 2) (st 100 [(7, x7), (9, x9), (10, x10), (12, x12), (14, x14), (15, x15), (16, x16), (17, x17), (60, x60), (61, x61), (62, x62), (63, x63)]) h kk =
    bnd (aPick x61 x63 (.bool false)) fun v48 =>
    kk (st 100 [(7, x7), (9, x9), (10, x10), (12, x12), (14, x14), (15, x15), (16, x16), (17, x17), (60, x60), (61, x61), (62, x62), (63, x63), (64, v48), (65, v48)]) h
  := by kernel_rfl
theorem j7_18b_2 {β : Type} (call : CallF) (md : Bool) (k : Ex → List AV → Heap → Option β) (x7 x9 x10 x12 x14 x15 x16 x17 x60 x61 x62 x63 : AV) (h : Heap) :
    opsK C0 call md 7 (O7 18) ((O7 18).toList.drop 4) (st 100 [(7, x7), (9, x9), (10, x10), (12, x12), (14, x14), (15, x15), (16, x16), (17, x17), (60, x60), (61, x61), (62, x62), (63, x63)]) h (fun tm h => k .normal (clr (C0.keep 7 18) tm) h) = J7_18b_2 call md k x7 x10 x12 x14 x15 x16 x17 x61 x63 h := by
  have e : ((O7 18).toList.drop 4) = ((O7 18).toList.drop 4).take 2 ++ (O7 18).toList.drop 6 := by kernel_rfl
  rw [show opsK C0 call md 7 (O7 18) ((O7 18).toList.drop 4) = opsK C0 call md 7 (O7 18) (((O7 18).toList.drop 4).take 2 ++ (O7 18).toList.drop 6) from congrArg _ e]
  rw [opsK_append, g7_18b_2]
  simp only [j7_18b_3]
  rfl
def J7_18b_1 {β : Type} (call : CallF) (md : Bool) (k : Ex → List AV → Heap → Option β) (x7 x9 x10 x12 x14 x15 x16 x17 x61 : AV) (h : Heap) : Option β :=
    onG true x61 (
      bnd (aBinC tab .eql 27 x9 (.int .i64 0) true) fun v49 =>
      J7_18b_2 call md k x7 x10 x12 x14 x15 x16 x17 x61 v49 h) (
      J7_18b_2 call md k x7 x10 x12 x14 x15 x16 x17 x61 .skip h)
theorem g7_18b_1 {β : Type} (call : CallF) (md : Bool) (kk : List AV → Heap → Option β) (x7 x9 x10 x12 x14 x15 x16 x17 x60 x61 : AV) (h : Heap) :
    opsK C0 call md 7 (O7 18) (((O7 18).toList.drop 2).take 2) (st 100 [(7, x7), (9, x9), (10, x10), (12, x12), (14, x14), (15, x15), (16, x16), (17, x17), (60, x60), (61, x61)]) h kk =
    onG true x61 (
      bnd (aBinC tab .eql 27 x9 (.int .i64 0) true) fun v50 =>
      kk (st 100 [(7, x7), (9, x9), (10, x10), (12, x12), (14, x14), (15, x15), (16, x16), (17, x17), (60, x60), (61, x61), (62, x9), (63, v50)]) h) (
      kk (st 100 [(7, x7), (9, x9), (10, x10), (12, x12), (14, x14), (15, x15), (16, x16), (17, x17), (60, x60), (61, x61), (62, .skip), (63, .skip)]) h)
  := by cases x61 with | bool b => (cases b <;> kernel_rfl) | _ => kernel_rfl
theorem j7_18b_1 {β : Type} (call : CallF) (md : Bool) (k : Ex → List AV → Heap → Option β) (x7 x9 x10 x12 x14 x15 x16 x17 x60 x61 : AV) (h : Heap) :
    opsK C0 call md 7 (O7 18) ((O7 18).toList.drop 2) (st 100 [(7, x7), (9, x9), (10, x10), (12, x12), (14, x14), (15, x15), (16, x16), (17, x17), (60, x60), (61, x61)]) h (fun tm h => k .normal (clr (C0.keep 7 18) tm) h) = J7_18b_1 call md k x7 x9 x10 x12 x14 x15 x16 x17 x61 h := by
  have e : ((O7 18).toList.drop 2) = ((O7 18).toList.drop 2).take 2 ++ (O7 18).toList.drop 4 := by kernel_rfl
  rw [show opsK C0 call md 7 (O7 18) ((O7 18).toList.drop 2) = opsK C0 call md 7 (O7 18) (((O7 18).toList.drop 2).take 2 ++ (O7 18).toList.drop 4) from congrArg _ e]
  rw [opsK_append, g7_18b_1]
  simp only [j7_18b_2]
  rfl
def J7_18b_0 {β : Type} (call : CallF) (md : Bool) (k : Ex → List AV → Heap → Option β) (x7 x9 x10 x12 x14 x15 x16 x17 : AV) (h : Heap) : Option β :=
    bnd2 (aCall call md (.fn (.func 36) []) [] h) fun v51 h52 =>
    J7_18b_1 call md k x7 x9 x10 x12 x14 x15 x16 x17 v51 h52
theorem g7_18b_0 {β : Type} (call : CallF) (md : Bool) (kk : List AV → Heap → Option β) (x7 x9 x10 x12 x14 x15 x16 x17 : AV) (h : Heap) :
    opsK C0 call md 7 (O7 18) ((O7 18).toList.take 2) (st 100 [(7, x7), (9, x9), (10, x10), (12, x12), (14, x14), (15, x15), (16, x16), (17, x17)]) h kk =
    bnd2 (aCall call md (.fn (.func 36) []) [] h) fun v53 h54 =>
    kk (st 100 [(7, x7), (9, x9), (10, x10), (12, x12), (14, x14), (15, x15), (16, x16), (17, x17), (60, v53), (61, v53)]) h54
  := by kernel_rfl
theorem j7_18b_0 {β : Type} (call : CallF) (md : Bool) (k : Ex → List AV → Heap → Option β) (x7 x9 x10 x12 x14 x15 x16 x17 : AV) (h : Heap) :
    opsK C0 call md 7 (O7 18) (O7 18).toList (st 100 [(7, x7), (9, x9), (10, x10), (12, x12), (14, x14), (15, x15), (16, x16), (17, x17)]) h (fun tm h => k .normal (clr (C0.keep 7 18) tm) h) = J7_18b_0 call md k x7 x9 x10 x12 x14 x15 x16 x17 h := by
  have e : (O7 18).toList = (O7 18).toList.take 2 ++ (O7 18).toList.drop 2 := by kernel_rfl
  rw [show opsK C0 call md 7 (O7 18) (O7 18).toList = opsK C0 call md 7 (O7 18) ((O7 18).toList.take 2 ++ (O7 18).toList.drop 2) from congrArg _ e]
  rw [opsK_append, g7_18b_0]
  simp only [j7_18b_1]
  rfl
theorem r7_18b {β : Type} (call : CallF) (md : Bool) (n : Nat) (k : Ex → List AV → Heap → Option β) (x7 x9 x10 x12 x14 x15 x16 x17 : AV) (h : Heap) :
    runK C0 call md 7 n (.region 18 (O7 18) false) k (st 100 [(7, x7), (9, x9), (10, x10), (12, x12), (14, x14), (15, x15), (16, x16), (17, x17)]) h = J7_18b_0 call md k x7 x9 x10 x12 x14 x15 x16 x17 h := (runK_region C0 call md 7 n 18 (O7 18) k (st 100 [(7, x7), (9, x9), (10, x10), (12, x12), (14, x14), (15, x15), (16, x16), (17, x17)]) h).trans (j7_18b_0 call md k x7 x9 x10 x12 x14 x15 x16 x17 h)
end Go.Ax

namespace Go.Ax
open Go Go.Proofs
theorem full_loop (x b : AV) {bs : List UInt8} (hb : Bs b bs) (hbl : bs.length ≤ 8192) {S : Obs} {q p r : Nat} (gen fr to : Nat) (N : Nat) (hN : 10400 < N) (most : Nat) :
    ∀ (m i n : Nat) (h : Heap) (l : List (List UInt8)) (es : List (List UInt8)), i + m = most → m < n → Up S h → Log l gen es (fr + i * nOf bs) → toOf l.length gen = to → fr + most * nOf bs ≤ to → Lsk S h q p r ⟨Calm l, gen, ((fr + i * nOf bs : Nat) : Int), false⟩ →
    ∃ h' l' es', (∀ K : Ex → List AV → Heap → Option (AV × Heap), loopK (fun next => runK C0 (exFn C0 E0 (N + 1)) false 7 (N + 1) B7_1 (seqE next K)) n (st 100 [(7, lp q), (9, x), (10, b), (12, .int .i64 most), (13, .int .i64 i)]) h =
      K (.exit 0) (st 100 [(7, lp q), (9, x), (10, b), (12, .int .i64 most), (13, .int .i64 most), (43, .bool false)]) h') ∧
      Log l' gen es' (fr + most * nOf bs) ∧ l'.length = l.length ∧ Lsk S h' q p r ⟨Calm l', gen, ((fr + most * nOf bs : Nat) : Int), false⟩ ∧ Keep S h h' := by
  intro m
  induction m with
  | zero =>
    intro i n h l es hi hn up L _ _ W
    obtain ⟨n, rfl⟩ : ∃ j, n = j + 1 := ⟨n - 1, by omega⟩
    obtain rfl : i = most := by omega
    refine ⟨h, l, es, fun K => ?_, L, rfl, W, Keep.refl _ _⟩
    rw [loopK_succ]
    generalize loopK (_ : (List AV → Heap → Option (AV × Heap)) → List AV → Heap → Option (AV × Heap)) n = Lp
    have e : decide (((i : Nat) : Int) < (i : Nat)) = false := decide_eq_false (by omega)
    simp -implicitDefEqProofs only [B7_1, ↓runK_seq, runK_seq, ↓runK_cond, runK_cond, ↓runK_block, runK_block, ↓runK_loop, runK_loop, ↓runK_skip, runK_skip, ↓runK_ret, runK_ret, ↓runK_exit, runK_exit, ↓seqE_n, seqE_n, ↓seqE_e, seqE_e, ↓seqE_r, seqE_r, ↓blkE_n, blkE_n, ↓blkE_e, blkE_e, ↓blkE_r, blkE_r, ↓retK_n, retK_n, ↓retK_r, retK_r, ↓aCall_fn, aCall_fn, ↓bnd_s, bnd_s, ↓bnd2_s, bnd2_s, ↓onB_t, onB_t, ↓onB_f, onB_f, ↓onG_tt, onG_tt, ↓onG_tf, onG_tf, ↓onG_ft, onG_ft, ↓onG_ff, onG_ff, ↓onG_s, onG_s, ↓onT_t, onT_t, ↓aPick_t, aPick_t, ↓aPick_f, aPick_f, decide_true, decide_false, st_tmp, results1, results2, List.lookup_cons, List.lookup_nil, Nat.reduceBEq, Bool.false_eq_true, ↓reduceIte, BEq.rfl, Nat.reduceLT, Option.getD_some, Option.getD_none, ↓r7_0, r7_0, ↓r7_1, r7_1, ↓r7_2, r7_2, ↓r7_3, r7_3, ↓r7_4, r7_4, ↓r7_5, r7_5, ↓r7_6, r7_6, ↓r7_7, r7_7, ↓r7_8, r7_8, ↓r7_9, r7_9, ↓r7_10, r7_10, ↓r7_11, r7_11, ↓r7_12, r7_12, ↓r7_13, r7_13, ↓r7_14, r7_14, ↓r7_15, r7_15, ↓r7_16, r7_16, ↓r7_17, r7_17, ↓r7_18a, r7_18a, J7_18a_0, J7_18a_1, J7_18a_2, J7_18a_3, J7_18a_4, J7_18a_5, J7_18a_6, J7_18a_7, J7_18a_8, J7_18a_9, J7_18a_10, J7_18a_11, J7_18a_12, J7_18a_13, J7_18a_14, ↓r7_18b, r7_18b, J7_18b_0, J7_18b_1, J7_18b_2, J7_18b_3, J7_18b_4, J7_18b_5, J7_18b_6, J7_18b_7, J7_18b_8, J7_18b_9, J7_18b_10, J7_18b_11, J7_18b_12, J7_18b_13, J7_18b_14, bin_lss, e]
  | succ m ih =>
    intro i n h l es hi hn up L hto hf W
    obtain ⟨n, rfl⟩ : ∃ j, n = j + 1 := ⟨n - 1, by omega⟩
    have h1 := L.lo
    have h2 := L.hi
    have hg := L.g2
    have hle := toOf_le l.length gen (by omega)
    have e : decide (((i : Nat) : Int) < (most : Nat)) = true := decide_eq_true (by omega)
    have hpos := nOf_pos bs
    have hsucc : fr + (i + 1) * nOf bs = fr + i * nOf bs + nOf bs := by rw [Nat.succ_mul]; omega
    have hmul : (i + 1) * nOf bs ≤ most * nOf bs := Nat.mul_le_mul_right _ (by omega)
    have him : i + 1 ≤ (i + 1) * nOf bs := by
      have := Nat.mul_le_mul_left (i + 1) hpos
      omega
    have wr : IntKind.i64.wrap ((i : Int) + 1) = ((i + 1 : Nat) : Int) := by rw [wrap_i64] <;> omega
    obtain ⟨p1, L2⟩ := L.append hbl (by omega)
    obtain ⟨h3, g1, W2, k1⟩ := append_ok W up (by show 2 ≤ l.length; omega) (by show gen < 2 ^ 62; omega) (by show ((fr + i * nOf bs : Nat) : Int) < 2 ^ 62; omega) (calm_sane h2) hb (by omega) N hN
    rw [p1] at g1 W2
    rw [← hsucc] at L2 W2
    have hll : (laid l (fr + i * nOf bs) gen bs).length = l.length := laid_length _ _ _ _
    obtain ⟨h4, l', es', f1, f2, f3, f4, f5⟩ := ih (i + 1) n h3 _ _ (by omega) (by omega) (up.keep k1) L2 (by rw [hll]; exact hto) hf W2
    refine ⟨h4, l', es', fun K => ?_, f2, by rw [f3, hll], f4, k1.trans f5⟩
    rw [loopK_succ, ← f1 K]
    generalize loopK (_ : (List AV → Heap → Option (AV × Heap)) → List AV → Heap → Option (AV × Heap)) n = Lp
    have c0 : decide ((0 : Int) ≠ 0) = false := by decide
    simp -implicitDefEqProofs only [B7_1, ↓runK_seq, runK_seq, ↓runK_cond, runK_cond, ↓runK_block, runK_block, ↓runK_loop, runK_loop, ↓runK_skip, runK_skip, ↓runK_ret, runK_ret, ↓runK_exit, runK_exit, ↓seqE_n, seqE_n, ↓seqE_e, seqE_e, ↓seqE_r, seqE_r, ↓blkE_n, blkE_n, ↓blkE_e, blkE_e, ↓blkE_r, blkE_r, ↓retK_n, retK_n, ↓retK_r, retK_r, ↓aCall_fn, aCall_fn, ↓bnd_s, bnd_s, ↓bnd2_s, bnd2_s, ↓onB_t, onB_t, ↓onB_f, onB_f, ↓onG_tt, onG_tt, ↓onG_tf, onG_tf, ↓onG_ft, onG_ft, ↓onG_ff, onG_ff, ↓onG_s, onG_s, ↓onT_t, onT_t, ↓aPick_t, aPick_t, ↓aPick_f, aPick_f, decide_true, decide_false, st_tmp, results1, results2, List.lookup_cons, List.lookup_nil, Nat.reduceBEq, Bool.false_eq_true, ↓reduceIte, BEq.rfl, Nat.reduceLT, Option.getD_some, Option.getD_none, ↓r7_0, r7_0, ↓r7_1, r7_1, ↓r7_2, r7_2, ↓r7_3, r7_3, ↓r7_4, r7_4, ↓r7_5, r7_5, ↓r7_6, r7_6, ↓r7_7, r7_7, ↓r7_8, r7_8, ↓r7_9, r7_9, ↓r7_10, r7_10, ↓r7_11, r7_11, ↓r7_12, r7_12, ↓r7_13, r7_13, ↓r7_14, r7_14, ↓r7_15, r7_15, ↓r7_16, r7_16, ↓r7_17, r7_17, ↓r7_18a, r7_18a, J7_18a_0, J7_18a_1, J7_18a_2, J7_18a_3, J7_18a_4, J7_18a_5, J7_18a_6, J7_18a_7, J7_18a_8, J7_18a_9, J7_18a_10, J7_18a_11, J7_18a_12, J7_18a_13, J7_18a_14, ↓r7_18b, r7_18b, J7_18b_0, J7_18b_1, J7_18b_2, J7_18b_3, J7_18b_4, J7_18b_5, J7_18b_6, J7_18b_7, J7_18b_8, J7_18b_9, J7_18b_10, J7_18b_11, J7_18b_12, J7_18b_13, J7_18b_14, bin_lss, e, g1, neq27, c0, bin_add, wr]
theorem rem60_u8 (a : Nat) : aBinC tab .rem 5 (.int .u8 a) (.int .u8 60) true = some (.int .u8 ((a % 60 : Nat) : Int)) := by
  simp [aBinC, aBin, Go.binOp, Op.intDiv, ofPure, pure, wrap_u8]
  rw [Int.tmod_eq_emod_of_nonneg (by omega)]
  try omega
theorem zerosl_n (n : Nat) (hn : n < 256) : aZeroSl tab 22 (.int .i64 n) (.int .i64 n) = some (.vsl 5 ((List.replicate n (0 : UInt8)).map U8) .none) := by
  have hz : zero tab 5 = some (U8 0) := by kernel_rfl
  have h8 : (n : Int).toNat = n := by omega
  have : aZeros tab 22 (.int .i64 n) (.int .i64 n) = some (5, n, n, U8 0) := by simp [aZeros, hz]; omega
  simp [aZeroSl, this]
theorem quo_nat (a b : Nat) (ha : a < 2 ^ 62) (hb : 0 < b) (c : Bool) : aBinC tab .quo 3 (.int .i64 a) (.int .i64 b) c = some (.int .i64 ((a / b : Nat) : Int)) := by
  have := Nat.div_le_self a b
  rw [bin_quo _ _ _ _ _ _ (by omega), Int.tdiv_eq_ediv_of_nonneg (by omega), show ((a : Int) / (b : Int)) = ((a / b : Nat) : Int) from rfl]
  generalize a / b = c at *
  rw [wrap_i64 (by omega) (by omega)]
theorem full_law (h : Heap) (n sz : Nat) (hn : n < 256) (hs : sz < 256) (k : Nat) (hk : 10600 < k) : ∃ h', exFn C0 E0 (k + 1) false 7 [.int .u8 n, .int .u8 sz] h = some (.bool true, h') := by
  obtain ⟨k, rfl⟩ : ∃ j, k = j + 3 := ⟨k - 3, by omega⟩
  have up := Up.fresh h
  have hb : Bs (.vsl 5 ((List.replicate sz (0 : UInt8)).map U8) .none) (List.replicate sz 0) := .inr ⟨_, rfl⟩
  have hbl : (List.replicate sz (0 : UInt8)).length = sz := by simp
  have hno := nOf_eq' (List.replicate sz (0 : UInt8))
  rw [hbl] at hno
  have wk : IntKind.i64.wrap (((n % 60 : Nat) : Int) + 8) = ((n % 60 + 8 : Nat) : Int) := by rw [wrap_i64] <;> omega
  have zs := zerosl_n sz hs
  have cv := conv8_64' sz hs
  generalize hbb : (List.replicate sz (0 : UInt8)) = b at *
  generalize hbv : AV.vsl 5 (b.map U8) .none = bv at *
  generalize hK : n % 60 + 8 = K at *
  obtain ⟨p, r, h1, n1, D1, k1⟩ := new_ok (K : Int) h false (k + 2)
  have up1 := up.keep k1
  obtain ⟨o1, L1⟩ := open_blank K (by omega) (by omega)
  have dn : Dk.new (K : Int) = Calm (List.replicate K Go.Ax.zs) := by rw [new_calm, show newN (K : Int) = K by unfold newN; omega]
  rw [dn] at D1
  obtain ⟨h2, l, x, g1, k2, -, a2, -⟩ := open_ok D1 up1 (by simp [Calm]; omega) (calm_sane (by simp; omega)) (k + 2) (by omega)
  rw [o1] at g1 a2
  obtain ⟨q, rfl, hq1, hq2, W1, -⟩ := a2 rfl
  have up2 := up1.keep k2
  have hl1 : ((List.replicate K Go.Ax.zs).set 1 (pad (superOf 1))).length = K := by simp
  generalize (List.replicate K Go.Ax.zs).set 1 (pad (superOf 1)) = l1 at *
  have hto : toOf K 1 = fromOf K 1 + halfOf K := rfl
  have hhalf : halfOf K = (K - 2) / 2 := rfl
  have hpos := nOf_pos b
  obtain ⟨y1, h3, s1, a3, k3⟩ := sectors_ok hb (by omega) 1 h2 (k + 2) (by omega)
  have W3 := W1.fresh k3
  have up3 := up2.keep k3
  have el := entryOf_length 1 b
  have ql := quo_nat (halfOf K) (nOf b) (by omega) (by omega) false
  generalize hmost : halfOf K / nOf b = most at *
  have hm1 : most * nOf b ≤ halfOf K := by rw [← hmost]; exact Nat.div_mul_le_self _ _
  have hm2 : halfOf K < (most + 1) * nOf b := by rw [← hmost]; exact Nat.lt_mul_of_div_lt (Nat.lt_succ_self _) hpos
  have hms : (most + 1) * nOf b = most * nOf b + nOf b := by rw [Nat.succ_mul]
  have hmm : most ≤ halfOf K := by rw [← hmost]; exact Nat.div_le_self _ _
  have L1' : Log l1 1 [] (fromOf K 1 + 0 * nOf b) := by rw [Nat.zero_mul, Nat.add_zero]; exact L1
  have W3' : Lsk (From h.length) h3 q p r ⟨Calm l1, 1, ((fromOf K 1 + 0 * nOf b : Nat) : Int), false⟩ := by rw [Nat.zero_mul, Nat.add_zero]; exact W3
  obtain ⟨h4, l4, es4, f1, L4, hl4, W4, k4⟩ := full_loop (.int .i64 0) bv hb (by omega) (S := From h.length) (q := q) (p := p) (r := r) 1 (fromOf K 1) (toOf K 1) (k + 2) (by omega) most most 0 (k + 3) h3 l1 [] (by omega) (by omega) up3 L1' (by rw [hl1]) (by omega) W3'
  rw [show ((0 : Nat) : Int) = 0 from rfl] at f1
  rw [hl1] at hl4
  have up4 := up3.keep k4
  have c1 := L4.append_full (b := b) (by omega) (by rw [hl4]; omega)
  have hlo := L4.lo
  have hhi := L4.hi
  have hfr := toOf_le K 1 (by omega)
  obtain ⟨h5, g5, W5, k5⟩ := append_ok W4 up4 (by show 2 ≤ l4.length; omega) (by show 1 < 2 ^ 62; decide) (by show ((fromOf K 1 + most * nOf b : Nat) : Int) < 2 ^ 62; omega) (calm_sane hhi) hb (by omega) (k + 2) (by omega)
  rw [c1] at g5 W5
  have up5 := up4.keep k5
  have us := used_ok W5 (by show 2 ≤ l4.length; omega) (by show 1 < 2 ^ 62; decide) (by show (0 : Int) ≤ ((fromOf K 1 + most * nOf b : Nat) : Int); omega) (by show ((fromOf K 1 + most * nOf b : Nat) : Int) < 2 ^ 62; omega) k
  rw [show (Calm l4).lasts.length = K from hl4] at us
  have usv : ((fromOf K 1 + most * nOf b : Nat) : Int) - (fromOf K 1 : Nat) = ((most * nOf b : Nat) : Int) := by omega
  simp only [usv] at us
  obtain ⟨h6, g6, W6, k6⟩ := checkpoint_ok W5 up5 (by show 2 ≤ l4.length; omega) (by show 1 < 2 ^ 61; decide) (calm_sane hhi) hb (by omega) (k + 2) (by omega)
  have up6 := up5.keep k6
  obtain ⟨h7, a7, k7⟩ := answers4_ok h6 (k + 2) (by omega)
  have W7 := W6.fresh k7
  obtain ⟨y2, h8, s2, a8, k8⟩ := sectors_ok hb (by omega) 1 h7 (k + 2) (by omega)
  have W8 := W7.fresh k8
  obtain ⟨y3, h9, s3, a9, k9⟩ := sectors_ok hb (by omega) 1 h8 (k + 2) (by omega)
  have ln1 := a3.rw.len
  have ln2 := a8.rw.len
  have ln3 := a9.rw.len
  rw [el] at ln1 ln2 ln3
  have wm : IntKind.i64.wrap ((most : Int) * (nOf b : Int)) = ((most * nOf b : Nat) : Int) := by rw [show ((most : Int) * (nOf b : Int)) = ((most * nOf b : Nat) : Int) from rfl, wrap_i64] <;> omega
  have z0 : decide ((0 : Int) = 0) = true := by decide
  have z3 : decide ((3 : Int) = 3) = true := by decide
  have em : decide (((most * nOf b : Nat) : Int) = ((most * nOf b : Nat) : Int)) = true := decide_eq_true rfl
  have w2 : IntKind.i64.wrap ((K : Int) - 2) = ((K - 2 : Nat) : Int) := by rw [wrap_i64] <;> omega
  have q2 := quo2_i64 (K - 2) (by omega) true
  rw [← hhalf] at q2
  have n0 : ([.int .u8 n, .int .u8 sz] ++ List.replicate (100 - [AV.int .u8 n, .int .u8 sz].length) AV.undef) = st 100 [(0, .int .u8 n), (1, .int .u8 sz)] := rfl
  by_cases hm0 : most = 0
  · have hck := L4.checkpoint_full (b := b) (by omega) (by rw [hl4]; rw [hm0] at hm2; omega)
    rw [hck] at g6
    have e0 : decide ((most : Int) = 0) = true := decide_eq_true (by omega)
    have e3 : decide ((3 : Int) ≠ 0) = true := by decide
    refine ⟨h8, exFn_of e7 ?_⟩
    rw [fnK, n0, s7]
    simp -implicitDefEqProofs only [↓runK_seq, runK_seq, ↓runK_cond, runK_cond, ↓runK_block, runK_block, ↓runK_loop, runK_loop, ↓runK_skip, runK_skip, ↓runK_ret, runK_ret, ↓runK_exit, runK_exit, ↓seqE_n, seqE_n, ↓seqE_e, seqE_e, ↓seqE_r, seqE_r, ↓blkE_n, blkE_n, ↓blkE_e, blkE_e, ↓blkE_r, blkE_r, ↓retK_n, retK_n, ↓retK_r, retK_r, ↓aCall_fn, aCall_fn, ↓bnd_s, bnd_s, ↓bnd2_s, bnd2_s, ↓onB_t, onB_t, ↓onB_f, onB_f, ↓onG_tt, onG_tt, ↓onG_tf, onG_tf, ↓onG_ft, onG_ft, ↓onG_ff, onG_ff, ↓onG_s, onG_s, ↓onT_t, onT_t, ↓aPick_t, aPick_t, ↓aPick_f, aPick_f, decide_true, decide_false, st_tmp, results1, results2, List.lookup_cons, List.lookup_nil, Nat.reduceBEq, Bool.false_eq_true, ↓reduceIte, BEq.rfl, Nat.reduceLT, Option.getD_some, Option.getD_none, ↓r7_0, r7_0, ↓r7_1, r7_1, ↓r7_2, r7_2, ↓r7_3, r7_3, ↓r7_4, r7_4, ↓r7_5, r7_5, ↓r7_6, r7_6, ↓r7_7, r7_7, ↓r7_8, r7_8, ↓r7_9, r7_9, ↓r7_10, r7_10, ↓r7_11, r7_11, ↓r7_12, r7_12, ↓r7_13, r7_13, ↓r7_14, r7_14, ↓r7_15, r7_15, ↓r7_16, r7_16, ↓r7_17, r7_17, ↓r7_18a, r7_18a, J7_18a_0, J7_18a_1, J7_18a_2, J7_18a_3, J7_18a_4, J7_18a_5, J7_18a_6, J7_18a_7, J7_18a_8, J7_18a_9, J7_18a_10, J7_18a_11, J7_18a_12, J7_18a_13, J7_18a_14, ↓r7_18b, r7_18b, J7_18b_0, J7_18b_1, J7_18b_2, J7_18b_3, J7_18b_4, J7_18b_5, J7_18b_6, J7_18b_7, J7_18b_8, J7_18b_9, J7_18b_10, J7_18b_11, J7_18b_12, J7_18b_13, J7_18b_14, rem60_u8, conv8_64' (n % 60) (by omega), bin_add, wk, n1, g1, ext30, ext31, ext32, cv, zs, bin_sub, w2, q2, s1, ln1, ql]
    rw [f1]
    simp -implicitDefEqProofs only [↓runK_seq, runK_seq, ↓runK_cond, runK_cond, ↓runK_block, runK_block, ↓runK_loop, runK_loop, ↓runK_skip, runK_skip, ↓runK_ret, runK_ret, ↓runK_exit, runK_exit, ↓seqE_n, seqE_n, ↓seqE_e, seqE_e, ↓seqE_r, seqE_r, ↓blkE_n, blkE_n, ↓blkE_e, blkE_e, ↓blkE_r, blkE_r, ↓retK_n, retK_n, ↓retK_r, retK_r, ↓aCall_fn, aCall_fn, ↓bnd_s, bnd_s, ↓bnd2_s, bnd2_s, ↓onB_t, onB_t, ↓onB_f, onB_f, ↓onG_tt, onG_tt, ↓onG_tf, onG_tf, ↓onG_ft, onG_ft, ↓onG_ff, onG_ff, ↓onG_s, onG_s, ↓onT_t, onT_t, ↓aPick_t, aPick_t, ↓aPick_f, aPick_f, decide_true, decide_false, st_tmp, results1, results2, List.lookup_cons, List.lookup_nil, Nat.reduceBEq, Bool.false_eq_true, ↓reduceIte, BEq.rfl, Nat.reduceLT, Option.getD_some, Option.getD_none, ↓r7_0, r7_0, ↓r7_1, r7_1, ↓r7_2, r7_2, ↓r7_3, r7_3, ↓r7_4, r7_4, ↓r7_5, r7_5, ↓r7_6, r7_6, ↓r7_7, r7_7, ↓r7_8, r7_8, ↓r7_9, r7_9, ↓r7_10, r7_10, ↓r7_11, r7_11, ↓r7_12, r7_12, ↓r7_13, r7_13, ↓r7_14, r7_14, ↓r7_15, r7_15, ↓r7_16, r7_16, ↓r7_17, r7_17, ↓r7_18a, r7_18a, J7_18a_0, J7_18a_1, J7_18a_2, J7_18a_3, J7_18a_4, J7_18a_5, J7_18a_6, J7_18a_7, J7_18a_8, J7_18a_9, J7_18a_10, J7_18a_11, J7_18a_12, J7_18a_13, J7_18a_14, ↓r7_18b, r7_18b, J7_18b_0, J7_18b_1, J7_18b_2, J7_18b_3, J7_18b_4, J7_18b_5, J7_18b_6, J7_18b_7, J7_18b_8, J7_18b_9, J7_18b_10, J7_18b_11, J7_18b_12, J7_18b_13, J7_18b_14, g5, us, g6, bin_eql, e0, a7, z0, z3, s2, ln2, bin_mul, wm, em, bin_neq, e3]
  · have hpos2 : nOf b ≤ halfOf K := by
      have : nOf b ≤ most * nOf b := by
        have := Nat.mul_le_mul_right (nOf b) (show 1 ≤ most by omega)
        omega
      omega
    obtain ⟨hck, L6⟩ := L4.checkpoint (b := b) (by omega) (by omega) (by rw [hl4]; exact hpos2)
    rw [hck] at g6 W6 W7 W8
    have e0 : decide ((most : Int) = 0) = false := decide_eq_false (by omega)
    have e3 : decide ((0 : Int) ≠ 0) = false := by decide
    have gs := gen_ok W8.var (k + 2)
    have hpl : (Calm (pointed l4 (1 + 1) b)).lasts.length = K := by
      show (pointed l4 (1 + 1) b).length = K
      unfold pointed; rw [List.length_set, laid_length, wiped_length, hl4]
    have hto2 := toOf_le K (1 + 1) (by omega)
    have hto2' : toOf K (1 + 1) = fromOf K (1 + 1) + halfOf K := rfl
    have us2 := used_ok W8 (by rw [hpl]; omega) (by show 1 + 1 < 2 ^ 62; decide) (by show (0 : Int) ≤ ((fromOf l4.length (1 + 1) + nOf b : Nat) : Int); omega) (by show ((fromOf l4.length (1 + 1) + nOf b : Nat) : Int) < 2 ^ 62; rw [hl4]; omega) k
    rw [hpl, hl4] at us2
    have usv2 : ((fromOf K (1 + 1) + nOf b : Nat) : Int) - (fromOf K (1 + 1) : Nat) = ((nOf b : Nat) : Int) := by omega
    simp only [usv2] at us2
    have eg : decide ((((1 + 1 : Nat)) : Int) = 2) = true := by decide
    have en : decide (((nOf b : Nat) : Int) = ((nOf b : Nat) : Int)) = true := decide_eq_true rfl
    refine ⟨h9, exFn_of e7 ?_⟩
    rw [fnK, n0, s7]
    simp -implicitDefEqProofs only [↓runK_seq, runK_seq, ↓runK_cond, runK_cond, ↓runK_block, runK_block, ↓runK_loop, runK_loop, ↓runK_skip, runK_skip, ↓runK_ret, runK_ret, ↓runK_exit, runK_exit, ↓seqE_n, seqE_n, ↓seqE_e, seqE_e, ↓seqE_r, seqE_r, ↓blkE_n, blkE_n, ↓blkE_e, blkE_e, ↓blkE_r, blkE_r, ↓retK_n, retK_n, ↓retK_r, retK_r, ↓aCall_fn, aCall_fn, ↓bnd_s, bnd_s, ↓bnd2_s, bnd2_s, ↓onB_t, onB_t, ↓onB_f, onB_f, ↓onG_tt, onG_tt, ↓onG_tf, onG_tf, ↓onG_ft, onG_ft, ↓onG_ff, onG_ff, ↓onG_s, onG_s, ↓onT_t, onT_t, ↓aPick_t, aPick_t, ↓aPick_f, aPick_f, decide_true, decide_false, st_tmp, results1, results2, List.lookup_cons, List.lookup_nil, Nat.reduceBEq, Bool.false_eq_true, ↓reduceIte, BEq.rfl, Nat.reduceLT, Option.getD_some, Option.getD_none, ↓r7_0, r7_0, ↓r7_1, r7_1, ↓r7_2, r7_2, ↓r7_3, r7_3, ↓r7_4, r7_4, ↓r7_5, r7_5, ↓r7_6, r7_6, ↓r7_7, r7_7, ↓r7_8, r7_8, ↓r7_9, r7_9, ↓r7_10, r7_10, ↓r7_11, r7_11, ↓r7_12, r7_12, ↓r7_13, r7_13, ↓r7_14, r7_14, ↓r7_15, r7_15, ↓r7_16, r7_16, ↓r7_17, r7_17, ↓r7_18a, r7_18a, J7_18a_0, J7_18a_1, J7_18a_2, J7_18a_3, J7_18a_4, J7_18a_5, J7_18a_6, J7_18a_7, J7_18a_8, J7_18a_9, J7_18a_10, J7_18a_11, J7_18a_12, J7_18a_13, J7_18a_14, ↓r7_18b, r7_18b, J7_18b_0, J7_18b_1, J7_18b_2, J7_18b_3, J7_18b_4, J7_18b_5, J7_18b_6, J7_18b_7, J7_18b_8, J7_18b_9, J7_18b_10, J7_18b_11, J7_18b_12, J7_18b_13, J7_18b_14, rem60_u8, conv8_64' (n % 60) (by omega), bin_add, wk, n1, g1, ext30, ext31, ext32, cv, zs, bin_sub, w2, q2, s1, ln1, ql]
    rw [f1]
    simp -implicitDefEqProofs only [↓runK_seq, runK_seq, ↓runK_cond, runK_cond, ↓runK_block, runK_block, ↓runK_loop, runK_loop, ↓runK_skip, runK_skip, ↓runK_ret, runK_ret, ↓runK_exit, runK_exit, ↓seqE_n, seqE_n, ↓seqE_e, seqE_e, ↓seqE_r, seqE_r, ↓blkE_n, blkE_n, ↓blkE_e, blkE_e, ↓blkE_r, blkE_r, ↓retK_n, retK_n, ↓retK_r, retK_r, ↓aCall_fn, aCall_fn, ↓bnd_s, bnd_s, ↓bnd2_s, bnd2_s, ↓onB_t, onB_t, ↓onB_f, onB_f, ↓onG_tt, onG_tt, ↓onG_tf, onG_tf, ↓onG_ft, onG_ft, ↓onG_ff, onG_ff, ↓onG_s, onG_s, ↓onT_t, onT_t, ↓aPick_t, aPick_t, ↓aPick_f, aPick_f, decide_true, decide_false, st_tmp, results1, results2, List.lookup_cons, List.lookup_nil, Nat.reduceBEq, Bool.false_eq_true, ↓reduceIte, BEq.rfl, Nat.reduceLT, Option.getD_some, Option.getD_none, ↓r7_0, r7_0, ↓r7_1, r7_1, ↓r7_2, r7_2, ↓r7_3, r7_3, ↓r7_4, r7_4, ↓r7_5, r7_5, ↓r7_6, r7_6, ↓r7_7, r7_7, ↓r7_8, r7_8, ↓r7_9, r7_9, ↓r7_10, r7_10, ↓r7_11, r7_11, ↓r7_12, r7_12, ↓r7_13, r7_13, ↓r7_14, r7_14, ↓r7_15, r7_15, ↓r7_16, r7_16, ↓r7_17, r7_17, ↓r7_18a, r7_18a, J7_18a_0, J7_18a_1, J7_18a_2, J7_18a_3, J7_18a_4, J7_18a_5, J7_18a_6, J7_18a_7, J7_18a_8, J7_18a_9, J7_18a_10, J7_18a_11, J7_18a_12, J7_18a_13, J7_18a_14, ↓r7_18b, r7_18b, J7_18b_0, J7_18b_1, J7_18b_2, J7_18b_3, J7_18b_4, J7_18b_5, J7_18b_6, J7_18b_7, J7_18b_8, J7_18b_9, J7_18b_10, J7_18b_11, J7_18b_12, J7_18b_13, J7_18b_14, g5, us, g6, bin_eql, e0, a7, z0, z3, s2, ln2, bin_mul, wm, em, bin_neq, e3, gs, eg, us2, s3, ln3, en]
end Go.Ax
