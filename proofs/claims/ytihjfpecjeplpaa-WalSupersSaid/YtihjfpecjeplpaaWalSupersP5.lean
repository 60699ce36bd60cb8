/- An interpreter of Go code over a small abstract heap, proved sound against the model, and what the functions that WalSupers reaches compute (part 5); each theorem for the inputs that it names. -/
import Derived.Test.YtihjfpecjeplpaaWalSupersP4
set_option linter.unusedSimpArgs false
set_option linter.unusedVariables false

set_option linter.unusedVariables false
namespace Go.Ax
open Go Go.Proofs
noncomputable def O9 (i : Nat) : Array Oper := opsOf i (bodyOf Try.f9)
noncomputable def B9_1 : Code := (.seq (.seq (.region 9 (O9 9) false) (.cond (Go.Operand.tmp 38) .skip (.exit 0))) (.seq (.block 1 (.seq (.region 11 (O9 11) false) (.cond (Go.Operand.tmp 46) (.seq (.region 12 (O9 12) false) .ret) .skip))) (.region 10 (O9 10) false)))
theorem s9 : bodyOf Try.f9 = (.seq (.region 0 (O9 0) false) (.seq (.seq (.region 1 (O9 1) false) (.cond (Go.Operand.tmp 21) (.seq (.region 2 (O9 2) false) .ret) .skip)) (.seq (.region 3 (O9 3) false) (.seq (.region 4 (O9 4) false) (.seq (.seq (.region 5 (O9 5) false) (.cond (Go.Operand.tmp 31) (.seq (.region 6 (O9 6) false) .ret) .skip)) (.seq (.region 7 (O9 7) false) (.seq (.seq (.region 8 (O9 8) false) (.block 0 (.loop B9_1))) (.seq (.region 13 (O9 13) false) (.seq (.region 14 (O9 14) false) (.seq (.seq (.region 15 (O9 15) false) (.cond (Go.Operand.tmp 58) (.seq (.region 16 (O9 16) false) .ret) .skip)) (.seq (.region 17 (O9 17) false) (.seq (.region 18 (O9 18) false) (.seq (.region 19 (O9 19) false) (.seq (.region 20 (O9 20) false) (.seq (.region 21 (O9 21) false) (.seq (.seq (.region 22 (O9 22) false) (.cond (Go.Operand.tmp 86) (.region 23 (O9 23) false) .skip)) (.seq (.region 24 (O9 24) false) .ret))))))))))))))))) := by kernel_rfl
theorem e9 : E0 9 = some ⟨109, [6], bodyOf Try.f9⟩ := by kernel_rfl
theorem r9_0 {β : Type} (call : CallF) (md : Bool) (n : Nat) (k : Ex → List AV → Heap → Option β) (x0 x1 x2 : AV) (h : Heap) :
    runK C0 call md 9 n (.region 0 (O9 0) false) k (st 109 [(0, x0), (1, x1), (2, x2)]) h =
    k .normal (st 109 [(0, x0), (1, x1), (2, x2)]) h
  := by kernel_rfl
theorem r9_1 {β : Type} (call : CallF) (md : Bool) (n : Nat) (k : Ex → List AV → Heap → Option β) (x0 x1 x2 : AV) (h : Heap) :
    runK C0 call md 9 n (.region 1 (O9 1) false) k (st 109 [(0, x0), (1, x1), (2, x2)]) h =
    bnd (aBinC tab .eql 5 x2 (.int .u8 0) true) fun v1 =>
    k .normal (st 109 [(0, x0), (1, x1), (2, x2), (21, v1)]) h
  := by kernel_rfl
theorem r9_2 {β : Type} (call : CallF) (md : Bool) (n : Nat) (k : Ex → List AV → Heap → Option β) (x0 x1 x2 x21 : AV) (h : Heap) :
    runK C0 call md 9 n (.region 2 (O9 2) false) k (st 109 [(0, x0), (1, x1), (2, x2), (21, x21)]) h =
    bnd2 (aCall call md (.fn (.func 36) []) [] h) fun v1 h2 =>
    k .normal (st 109 [(6, v1)]) h2
  := by kernel_rfl
theorem r9_3 {β : Type} (call : CallF) (md : Bool) (n : Nat) (k : Ex → List AV → Heap → Option β) (x0 x1 x2 x21 : AV) (h : Heap) :
    runK C0 call md 9 n (.region 3 (O9 3) false) k (st 109 [(0, x0), (1, x1), (2, x2), (21, x21)]) h =
    bnd2 (aCall call md (.fn (.func 13) []) [(.int .i64 80)] h) fun v1 h2 =>
    k .normal (st 109 [(0, x0), (1, x1), (2, x2), (7, v1)]) h2
  := by kernel_rfl
theorem r9_4 {β : Type} (call : CallF) (md : Bool) (n : Nat) (k : Ex → List AV → Heap → Option β) (x0 x1 x2 x7 : AV) (h : Heap) :
    runK C0 call md 9 n (.region 4 (O9 4) false) k (st 109 [(0, x0), (1, x1), (2, x2), (7, x7)]) h =
    bnd2 (aCall call md (.fn (.func 31) []) [x7] h) fun v1 h2 =>
    bnd (aExtract v1 0) fun v3 =>
    bnd (aExtract v1 1) fun v4 =>
    bnd (aExtract v1 2) fun v5 =>
    k .normal (st 109 [(0, x0), (1, x1), (2, x2), (7, x7), (8, v3), (10, v5)]) h2
  := by kernel_rfl
theorem r9_5 {β : Type} (call : CallF) (md : Bool) (n : Nat) (k : Ex → List AV → Heap → Option β) (x0 x1 x2 x7 x8 x10 : AV) (h : Heap) :
    runK C0 call md 9 n (.region 5 (O9 5) false) k (st 109 [(0, x0), (1, x1), (2, x2), (7, x7), (8, x8), (10, x10)]) h =
    bnd (aBinC tab .neq 27 x10 (.int .i64 0) true) fun v1 =>
    k .normal (st 109 [(0, x0), (1, x1), (2, x2), (7, x7), (8, x8), (31, v1)]) h
  := by kernel_rfl
theorem r9_6 {β : Type} (call : CallF) (md : Bool) (n : Nat) (k : Ex → List AV → Heap → Option β) (x0 x1 x2 x7 x8 x31 : AV) (h : Heap) :
    runK C0 call md 9 n (.region 6 (O9 6) false) k (st 109 [(0, x0), (1, x1), (2, x2), (7, x7), (8, x8), (31, x31)]) h =
    k .normal (st 109 [(6, (.bool false))]) h
  := by kernel_rfl
theorem r9_7 {β : Type} (call : CallF) (md : Bool) (n : Nat) (k : Ex → List AV → Heap → Option β) (x0 x1 x2 x7 x8 x31 : AV) (h : Heap) :
    runK C0 call md 9 n (.region 7 (O9 7) false) k (st 109 [(0, x0), (1, x1), (2, x2), (7, x7), (8, x8), (31, x31)]) h =
    bnd (aBinC tab .rem 5 x0 (.int .u8 5) true) fun v1 =>
    bnd (aConv tab 5 3 v1 h) fun v2 =>
    bnd (aBinC tab .add 3 v2 (.int .i64 1) true) fun v3 =>
    k .normal (st 109 [(1, x1), (2, x2), (7, x7), (8, x8), (11, v3)]) h
  := by kernel_rfl
theorem r9_8 {β : Type} (call : CallF) (md : Bool) (n : Nat) (k : Ex → List AV → Heap → Option β) (x1 x2 x7 x8 x11 : AV) (h : Heap) :
    runK C0 call md 9 n (.region 8 (O9 8) false) k (st 109 [(1, x1), (2, x2), (7, x7), (8, x8), (11, x11)]) h =
    k .normal (st 109 [(1, x1), (2, x2), (7, x7), (8, x8), (11, x11), (12, (.int .i64 0))]) h
  := by kernel_rfl
theorem r9_9 {β : Type} (call : CallF) (md : Bool) (n : Nat) (k : Ex → List AV → Heap → Option β) (x1 x2 x7 x8 x11 x12 : AV) (h : Heap) :
    runK C0 call md 9 n (.region 9 (O9 9) false) k (st 109 [(1, x1), (2, x2), (7, x7), (8, x8), (11, x11), (12, x12)]) h =
    bnd (aBinC tab .lss 3 x12 x11 false) fun v1 =>
    k .normal (st 109 [(1, x1), (2, x2), (7, x7), (8, x8), (11, x11), (12, x12), (38, v1)]) h
  := by kernel_rfl
theorem r9_10 {β : Type} (call : CallF) (md : Bool) (n : Nat) (k : Ex → List AV → Heap → Option β) (x1 x2 x7 x8 x11 x12 x46 : AV) (h : Heap) :
    runK C0 call md 9 n (.region 10 (O9 10) false) k (st 109 [(1, x1), (2, x2), (7, x7), (8, x8), (11, x11), (12, x12), (46, x46)]) h =
    bnd (aBinC tab .add 3 x12 (.int .i64 1) true) fun v1 =>
    k .normal (st 109 [(1, x1), (2, x2), (7, x7), (8, x8), (11, x11), (12, v1)]) h
  := by kernel_rfl
theorem r9_11 {β : Type} (call : CallF) (md : Bool) (n : Nat) (k : Ex → List AV → Heap → Option β) (x1 x2 x7 x8 x11 x12 x38 : AV) (h : Heap) :
    runK C0 call md 9 n (.region 11 (O9 11) false) k (st 109 [(1, x1), (2, x2), (7, x7), (8, x8), (11, x11), (12, x12), (38, x38)]) h =
    bnd (aConv tab 3 5 x12 h) fun v1 =>
    bnd (aLit tab 22 1 [(0, v1)]) fun v2 =>
    bnd2 (aCall call md (.fn (.func 35) []) [x8, v2] h) fun v3 h4 =>
    bnd (aBinC tab .neq 27 v3 (.int .i64 0) true) fun v5 =>
    k .normal (st 109 [(1, x1), (2, x2), (7, x7), (8, x8), (11, x11), (12, x12), (46, v5)]) h4
  := by kernel_rfl
theorem r9_12 {β : Type} (call : CallF) (md : Bool) (n : Nat) (k : Ex → List AV → Heap → Option β) (x1 x2 x7 x8 x11 x12 x46 : AV) (h : Heap) :
    runK C0 call md 9 n (.region 12 (O9 12) false) k (st 109 [(1, x1), (2, x2), (7, x7), (8, x8), (11, x11), (12, x12), (46, x46)]) h =
    k .normal (st 109 [(6, (.bool false))]) h
  := by kernel_rfl
theorem r9_13 {β : Type} (call : CallF) (md : Bool) (n : Nat) (k : Ex → List AV → Heap → Option β) (x1 x2 x7 x8 x11 x12 x38 : AV) (h : Heap) :
    runK C0 call md 9 n (.region 13 (O9 13) false) k (st 109 [(1, x1), (2, x2), (7, x7), (8, x8), (11, x11), (12, x12), (38, x38)]) h =
    bnd2 (aCall call md (.fn (.func 37) []) [x8] h) fun v1 h2 =>
    k .normal (st 109 [(1, x1), (2, x2), (7, x7), (11, x11), (13, v1)]) h2
  := by kernel_rfl
theorem r9_14 {β : Type} (call : CallF) (md : Bool) (n : Nat) (k : Ex → List AV → Heap → Option β) (x1 x2 x7 x11 x13 : AV) (h : Heap) :
    runK C0 call md 9 n (.region 14 (O9 14) false) k (st 109 [(1, x1), (2, x2), (7, x7), (11, x11), (13, x13)]) h =
    bnd (aBinC tab .rem 3 x13 (.int .i64 2) true) fun v1 =>
    bnd2 (aCall call true (.fn (.func 38) []) [x7, v1] h) fun v2 h3 =>
    bnd (aExtract v2 0) fun v4 =>
    bnd (aExtract v2 1) fun v5 =>
    k .normal (st 109 [(1, x1), (2, x2), (7, x7), (11, x11), (13, x13), (14, v4)]) h3
  := by kernel_rfl
theorem r9_15 {β : Type} (call : CallF) (md : Bool) (n : Nat) (k : Ex → List AV → Heap → Option β) (x1 x2 x7 x11 x13 x14 : AV) (h : Heap) :
    runK C0 call md 9 n (.region 15 (O9 15) false) k (st 109 [(1, x1), (2, x2), (7, x7), (11, x11), (13, x13), (14, x14)]) h =
    bnd (aLen tab 22 x14) fun v1 =>
    bnd (aBinC tab .neq 3 v1 (.int .i64 64) true) fun v2 =>
    k .normal (st 109 [(1, x1), (2, x2), (7, x7), (11, x11), (13, x13), (14, x14), (58, v2)]) h
  := by kernel_rfl
theorem r9_16 {β : Type} (call : CallF) (md : Bool) (n : Nat) (k : Ex → List AV → Heap → Option β) (x1 x2 x7 x11 x13 x14 x58 : AV) (h : Heap) :
    runK C0 call md 9 n (.region 16 (O9 16) false) k (st 109 [(1, x1), (2, x2), (7, x7), (11, x11), (13, x13), (14, x14), (58, x58)]) h =
    k .normal (st 109 [(6, (.bool false))]) h
  := by kernel_rfl
theorem r9_17 {β : Type} (call : CallF) (md : Bool) (n : Nat) (k : Ex → List AV → Heap → Option β) (x1 x2 x7 x11 x13 x14 x58 : AV) (h : Heap) :
    runK C0 call md 9 n (.region 17 (O9 17) false) k (st 109 [(1, x1), (2, x2), (7, x7), (11, x11), (13, x13), (14, x14), (58, x58)]) h =
    bnd (aBinC tab .rem 5 x1 (.int .u8 64) true) fun v1 =>
    bnd (aIndexAddr tab 22 x14 v1) fun v2 =>
    bnd (aLoad tab 5 v2 h) fun v3 =>
    bnd (aBinC tab .xor 5 v3 x2 false) fun v4 =>
    bnd (aIndexAddr tab 22 x14 v1) fun v5 =>
    bnd (aStore tab 5 v5 v4 h) fun h6 =>
    k .normal (st 109 [(7, x7), (11, x11), (13, x13), (14, x14)]) h6
  := by kernel_rfl
theorem r9_18 {β : Type} (call : CallF) (md : Bool) (n : Nat) (k : Ex → List AV → Heap → Option β) (x7 x11 x13 x14 : AV) (h : Heap) :
    runK C0 call md 9 n (.region 18 (O9 18) false) k (st 109 [(7, x7), (11, x11), (13, x13), (14, x14)]) h =
    bnd (aBinC tab .rem 3 x13 (.int .i64 2) true) fun v1 =>
    bnd2 (aCall call md (.fn (.func 17) []) [x7, v1, x14] h) fun v2 h3 =>
    k .normal (st 109 [(7, x7), (11, x11), (13, x13)]) h3
  := by kernel_rfl
theorem r9_19 {β : Type} (call : CallF) (md : Bool) (n : Nat) (k : Ex → List AV → Heap → Option β) (x7 x11 x13 : AV) (h : Heap) :
    runK C0 call md 9 n (.region 19 (O9 19) false) k (st 109 [(7, x7), (11, x11), (13, x13)]) h =
    bnd2 (aCall call md (.fn (.func 18) []) [x7] h) fun v1 h2 =>
    k .normal (st 109 [(7, x7), (11, x11), (13, x13)]) h2
  := by kernel_rfl
theorem r9_20 {β : Type} (call : CallF) (md : Bool) (n : Nat) (k : Ex → List AV → Heap → Option β) (x7 x11 x13 : AV) (h : Heap) :
    runK C0 call md 9 n (.region 20 (O9 20) false) k (st 109 [(7, x7), (11, x11), (13, x13)]) h =
    bnd2 (aCall call md (.fn (.func 31) []) [x7] h) fun v1 h2 =>
    bnd (aExtract v1 0) fun v3 =>
    bnd (aExtract v1 1) fun v4 =>
    bnd (aExtract v1 2) fun v5 =>
    k .normal (st 109 [(11, x11), (13, x13), (16, v3), (17, v4), (18, v5)]) h2
  := by kernel_rfl
theorem r9_21 {β : Type} (call : CallF) (md : Bool) (n : Nat) (k : Ex → List AV → Heap → Option β) (x11 x13 x16 x17 x18 : AV) (h : Heap) :
    runK C0 call md 9 n (.region 21 (O9 21) false) k (st 109 [(11, x11), (13, x13), (16, x16), (17, x17), (18, x18)]) h =
    bnd (aBinC tab .sub 3 x11 (.int .i64 2) true) fun v1 =>
    bnd (aConv tab 3 5 v1 h) fun v2 =>
    bnd (aLit tab 22 1 [(0, v2)]) fun v3 =>
    bnd (aLit tab 30 1 [(0, v3)]) fun v4 =>
    k .normal (st 109 [(11, x11), (13, x13), (16, x16), (17, x17), (18, x18), (19, v4)]) h
  := by kernel_rfl
theorem r9_22 {β : Type} (call : CallF) (md : Bool) (n : Nat) (k : Ex → List AV → Heap → Option β) (x11 x13 x16 x17 x18 x19 : AV) (h : Heap) :
    runK C0 call md 9 n (.region 22 (O9 22) false) k (st 109 [(11, x11), (13, x13), (16, x16), (17, x17), (18, x18), (19, x19)]) h =
    bnd (aBinC tab .eql 3 x11 (.int .i64 1) true) fun v1 =>
    k .normal (st 109 [(11, x11), (13, x13), (16, x16), (17, x17), (18, x18), (19, x19), (86, v1)]) h
  := by kernel_rfl
theorem r9_23 {β : Type} (call : CallF) (md : Bool) (n : Nat) (k : Ex → List AV → Heap → Option β) (x11 x13 x16 x17 x18 x19 x86 : AV) (h : Heap) :
    runK C0 call md 9 n (.region 23 (O9 23) false) k (st 109 [(11, x11), (13, x13), (16, x16), (17, x17), (18, x18), (19, x19), (86, x86)]) h =
    k .normal (st 109 [(11, x11), (13, x13), (16, x16), (17, x17), (18, x18), (19, .nils)]) h
  := by kernel_rfl
def J9_24a_8 {β : Type} (call : CallF) (md : Bool) (k : Ex → List AV → Heap → Option β) (x104 x107 : AV) (h : Heap) : Option β :=
    bnd (aPick x104 x107 (.bool false)) fun v1 =>
    k .normal (st 109 [(6, v1)]) h
theorem j9_24a_8 {β : Type} (call : CallF) (md : Bool) (k : Ex → List AV → Heap → Option β) (x11 x13 x16 x17 x18 x19 x86 x87 x88 x89 x90 x91 x92 x93 x94 x95 x96 x97 x98 x99 x100 x101 x102 x103 x104 x105 x106 x107 : AV) (h : Heap) :
    opsK C0 call md 9 (O9 24) ((O9 24).toList.drop 21) (st 109 [(11, x11), (13, x13), (16, x16), (17, x17), (18, x18), (19, x19), (86, x86), (87, x87), (88, x88), (89, x89), (90, x90), (91, x91), (92, x92), (93, x93), (94, x94), (95, x95), (96, x96), (97, x97), (98, x98), (99, x99), (100, x100), (101, x101), (102, x102), (103, x103), (104, x104), (105, x105), (106, x106), (107, x107)]) h (fun tm h => k .normal (clr (C0.keep 9 24) tm) h) = J9_24a_8 call md k x104 x107 h := by kernel_rfl
def J9_24a_7 {β : Type} (call : CallF) (md : Bool) (k : Ex → List AV → Heap → Option β) (x17 x19 x104 : AV) (h : Heap) : Option β :=
    onG true x104 (
      bnd2 (aCall call md (.fn (.func 16) []) [x17, x19] h) fun v3 h4 =>
      J9_24a_8 call md k x104 v3 h4) (
      J9_24a_8 call md k x104 .skip h)
theorem g9_24a_7 {β : Type} (call : CallF) (md : Bool) (kk : List AV → Heap → Option β) (x11 x13 x16 x17 x18 x19 x86 x87 x88 x89 x90 x91 x92 x93 x94 x95 x96 x97 x98 x99 x100 x101 x102 x103 x104 : AV) (h : Heap) :
    opsK C0 call md 9 (O9 24) (((O9 24).toList.drop 18).take 3) (st 109 [(11, x11), (13, x13), (16, x16), (17, x17), (18, x18), (19, x19), (86, x86), (87, x87), (88, x88), (89, x89), (90, x90), (91, x91), (92, x92), (93, x93), (94, x94), (95, x95), (96, x96), (97, x97), (98, x98), (99, x99), (100, x100), (101, x101), (102, x102), (103, x103), (104, x104)]) h kk =
    onG true x104 (
      bnd2 (aCall call md (.fn (.func 16) []) [x17, x19] h) fun v5 h6 =>
      kk (st 109 [(11, x11), (13, x13), (16, x16), (17, x17), (18, x18), (19, x19), (86, x86), (87, x87), (88, x88), (89, x89), (90, x90), (91, x91), (92, x92), (93, x93), (94, x94), (95, x95), (96, x96), (97, x97), (98, x98), (99, x99), (100, x100), (101, x101), (102, x102), (103, x103), (104, x104), (105, x17), (106, x19), (107, v5)]) h6) (
      kk (st 109 [(11, x11), (13, x13), (16, x16), (17, x17), (18, x18), (19, x19), (86, x86), (87, x87), (88, x88), (89, x89), (90, x90), (91, x91), (92, x92), (93, x93), (94, x94), (95, x95), (96, x96), (97, x97), (98, x98), (99, x99), (100, x100), (101, x101), (102, x102), (103, x103), (104, x104), (105, .skip), (106, .skip), (107, .skip)]) h)
  := by cases x104 with | bool b => (cases b <;> kernel_rfl) | _ => kernel_rfl
theorem j9_24a_7 {β : Type} (call : CallF) (md : Bool) (k : Ex → List AV → Heap → Option β) (x11 x13 x16 x17 x18 x19 x86 x87 x88 x89 x90 x91 x92 x93 x94 x95 x96 x97 x98 x99 x100 x101 x102 x103 x104 : AV) (h : Heap) :
    opsK C0 call md 9 (O9 24) ((O9 24).toList.drop 18) (st 109 [(11, x11), (13, x13), (16, x16), (17, x17), (18, x18), (19, x19), (86, x86), (87, x87), (88, x88), (89, x89), (90, x90), (91, x91), (92, x92), (93, x93), (94, x94), (95, x95), (96, x96), (97, x97), (98, x98), (99, x99), (100, x100), (101, x101), (102, x102), (103, x103), (104, x104)]) h (fun tm h => k .normal (clr (C0.keep 9 24) tm) h) = J9_24a_7 call md k x17 x19 x104 h := by
  have e : ((O9 24).toList.drop 18) = ((O9 24).toList.drop 18).take 3 ++ (O9 24).toList.drop 21 := by kernel_rfl
  rw [show opsK C0 call md 9 (O9 24) ((O9 24).toList.drop 18) = opsK C0 call md 9 (O9 24) (((O9 24).toList.drop 18).take 3 ++ (O9 24).toList.drop 21) from congrArg _ e]
  rw [opsK_append, g9_24a_7]
  simp only [j9_24a_8]
  rfl
def J9_24a_6 {β : Type} (call : CallF) (md : Bool) (k : Ex → List AV → Heap → Option β) (x17 x19 x98 x102 : AV) (h : Heap) : Option β :=
    bnd (aPick x98 x102 (.bool false)) fun v7 =>
    J9_24a_7 call md k x17 x19 v7 h
theorem g9_24a_6 {β : Type} (call : CallF) (md : Bool) (kk : List AV → Heap → Option β) (x11 x13 x16 x17 x18 x19 x86 x87 x88 x89 x90 x91 x92 x93 x94 x95 x96 x97 x98 x99 x100 x101 x102 : AV) (h : Heap) :
    opsK C0 call md 9 (O9 24) (((O9 24).toList.drop 16).take 2) (st 109 [(11, x11), (13, x13), (16, x16), (17, x17), (18, x18), (19, x19), (86, x86), (87, x87), (88, x88), (89, x89), (90, x90), (91, x91), (92, x92), (93, x93), (94, x94), (95, x95), (96, x96), (97, x97), (98, x98), (99, x99), (100, x100), (101, x101), (102, x102)]) h kk =
    bnd (aPick x98 x102 (.bool false)) fun v8 =>
    kk (st 109 [(11, x11), (13, x13), (16, x16), (17, x17), (18, x18), (19, x19), (86, x86), (87, x87), (88, x88), (89, x89), (90, x90), (91, x91), (92, x92), (93, x93), (94, x94), (95, x95), (96, x96), (97, x97), (98, x98), (99, x99), (100, x100), (101, x101), (102, x102), (103, v8), (104, v8)]) h
  := by kernel_rfl
theorem j9_24a_6 {β : Type} (call : CallF) (md : Bool) (k : Ex → List AV → Heap → Option β) (x11 x13 x16 x17 x18 x19 x86 x87 x88 x89 x90 x91 x92 x93 x94 x95 x96 x97 x98 x99 x100 x101 x102 : AV) (h : Heap) :
    opsK C0 call md 9 (O9 24) ((O9 24).toList.drop 16) (st 109 [(11, x11), (13, x13), (16, x16), (17, x17), (18, x18), (19, x19), (86, x86), (87, x87), (88, x88), (89, x89), (90, x90), (91, x91), (92, x92), (93, x93), (94, x94), (95, x95), (96, x96), (97, x97), (98, x98), (99, x99), (100, x100), (101, x101), (102, x102)]) h (fun tm h => k .normal (clr (C0.keep 9 24) tm) h) = J9_24a_6 call md k x17 x19 x98 x102 h := by
  have e : ((O9 24).toList.drop 16) = ((O9 24).toList.drop 16).take 2 ++ (O9 24).toList.drop 18 := by kernel_rfl
  rw [show opsK C0 call md 9 (O9 24) ((O9 24).toList.drop 16) = opsK C0 call md 9 (O9 24) (((O9 24).toList.drop 16).take 2 ++ (O9 24).toList.drop 18) from congrArg _ e]
  rw [opsK_append, g9_24a_6]
  simp only [j9_24a_7]
  rfl
def J9_24a_5 {β : Type} (call : CallF) (md : Bool) (k : Ex → List AV → Heap → Option β) (x11 x16 x17 x19 x98 : AV) (h : Heap) : Option β :=
    onG true x98 (
      bnd2 (aCall call md (.fn (.func 37) []) [x16] h) fun v9 h10 =>
      bnd (aBinC tab .eql 3 v9 x11 false) fun v11 =>
      J9_24a_6 call md k x17 x19 x98 v11 h10) (
      J9_24a_6 call md k x17 x19 x98 .skip h)
theorem g9_24a_5 {β : Type} (call : CallF) (md : Bool) (kk : List AV → Heap → Option β) (x11 x13 x16 x17 x18 x19 x86 x87 x88 x89 x90 x91 x92 x93 x94 x95 x96 x97 x98 : AV) (h : Heap) :
    opsK C0 call md 9 (O9 24) (((O9 24).toList.drop 12).take 4) (st 109 [(11, x11), (13, x13), (16, x16), (17, x17), (18, x18), (19, x19), (86, x86), (87, x87), (88, x88), (89, x89), (90, x90), (91, x91), (92, x92), (93, x93), (94, x94), (95, x95), (96, x96), (97, x97), (98, x98)]) h kk =
    onG true x98 (
      bnd2 (aCall call md (.fn (.func 37) []) [x16] h) fun v12 h13 =>
      bnd (aBinC tab .eql 3 v12 x11 false) fun v14 =>
      kk (st 109 [(11, x11), (13, x13), (16, x16), (17, x17), (18, x18), (19, x19), (86, x86), (87, x87), (88, x88), (89, x89), (90, x90), (91, x91), (92, x92), (93, x93), (94, x94), (95, x95), (96, x96), (97, x97), (98, x98), (99, x16), (100, v12), (101, x11), (102, v14)]) h13) (
      kk (st 109 [(11, x11), (13, x13), (16, x16), (17, x17), (18, x18), (19, x19), (86, x86), (87, x87), (88, x88), (89, x89), (90, x90), (91, x91), (92, x92), (93, x93), (94, x94), (95, x95), (96, x96), (97, x97), (98, x98), (99, .skip), (100, .skip), (101, .skip), (102, .skip)]) h)
  := by cases x98 with | bool b => (cases b <;> kernel_rfl) | _ => kernel_rfl
theorem j9_24a_5 {β : Type} (call : CallF) (md : Bool) (k : Ex → List AV → Heap → Option β) (x11 x13 x16 x17 x18 x19 x86 x87 x88 x89 x90 x91 x92 x93 x94 x95 x96 x97 x98 : AV) (h : Heap) :
    opsK C0 call md 9 (O9 24) ((O9 24).toList.drop 12) (st 109 [(11, x11), (13, x13), (16, x16), (17, x17), (18, x18), (19, x19), (86, x86), (87, x87), (88, x88), (89, x89), (90, x90), (91, x91), (92, x92), (93, x93), (94, x94), (95, x95), (96, x96), (97, x97), (98, x98)]) h (fun tm h => k .normal (clr (C0.keep 9 24) tm) h) = J9_24a_5 call md k x11 x16 x17 x19 x98 h := by
  have e : ((O9 24).toList.drop 12) = ((O9 24).toList.drop 12).take 4 ++ (O9 24).toList.drop 16 := by kernel_rfl
  rw [show opsK C0 call md 9 (O9 24) ((O9 24).toList.drop 12) = opsK C0 call md 9 (O9 24) (((O9 24).toList.drop 12).take 4 ++ (O9 24).toList.drop 16) from congrArg _ e]
  rw [opsK_append, g9_24a_5]
  simp only [j9_24a_6]
  rfl
def J9_24a_4 {β : Type} (call : CallF) (md : Bool) (k : Ex → List AV → Heap → Option β) (x11 x16 x17 x19 x92 x96 : AV) (h : Heap) : Option β :=
    bnd (aPick x92 x96 (.bool false)) fun v15 =>
    J9_24a_5 call md k x11 x16 x17 x19 v15 h
theorem g9_24a_4 {β : Type} (call : CallF) (md : Bool) (kk : List AV → Heap → Option β) (x11 x13 x16 x17 x18 x19 x86 x87 x88 x89 x90 x91 x92 x93 x94 x95 x96 : AV) (h : Heap) :
    opsK C0 call md 9 (O9 24) (((O9 24).toList.drop 10).take 2) (st 109 [(11, x11), (13, x13), (16, x16), (17, x17), (18, x18), (19, x19), (86, x86), (87, x87), (88, x88), (89, x89), (90, x90), (91, x91), (92, x92), (93, x93), (94, x94), (95, x95), (96, x96)]) h kk =
    bnd (aPick x92 x96 (.bool false)) fun v16 =>
    kk (st 109 [(11, x11), (13, x13), (16, x16), (17, x17), (18, x18), (19, x19), (86, x86), (87, x87), (88, x88), (89, x89), (90, x90), (91, x91), (92, x92), (93, x93), (94, x94), (95, x95), (96, x96), (97, v16), (98, v16)]) h
  := by kernel_rfl
theorem j9_24a_4 {β : Type} (call : CallF) (md : Bool) (k : Ex → List AV → Heap → Option β) (x11 x13 x16 x17 x18 x19 x86 x87 x88 x89 x90 x91 x92 x93 x94 x95 x96 : AV) (h : Heap) :
    opsK C0 call md 9 (O9 24) ((O9 24).toList.drop 10) (st 109 [(11, x11), (13, x13), (16, x16), (17, x17), (18, x18), (19, x19), (86, x86), (87, x87), (88, x88), (89, x89), (90, x90), (91, x91), (92, x92), (93, x93), (94, x94), (95, x95), (96, x96)]) h (fun tm h => k .normal (clr (C0.keep 9 24) tm) h) = J9_24a_4 call md k x11 x16 x17 x19 x92 x96 h := by
  have e : ((O9 24).toList.drop 10) = ((O9 24).toList.drop 10).take 2 ++ (O9 24).toList.drop 12 := by kernel_rfl
  rw [show opsK C0 call md 9 (O9 24) ((O9 24).toList.drop 10) = opsK C0 call md 9 (O9 24) (((O9 24).toList.drop 10).take 2 ++ (O9 24).toList.drop 12) from congrArg _ e]
  rw [opsK_append, g9_24a_4]
  simp only [j9_24a_5]
  rfl
def J9_24a_3 {β : Type} (call : CallF) (md : Bool) (k : Ex → List AV → Heap → Option β) (x11 x13 x16 x17 x19 x92 : AV) (h : Heap) : Option β :=
    onG true x92 (
      bnd (aBinC tab .add 3 x11 (.int .i64 1) true) fun v17 =>
      bnd (aBinC tab .eql 3 x13 v17 false) fun v18 =>
      J9_24a_4 call md k x11 x16 x17 x19 x92 v18 h) (
      J9_24a_4 call md k x11 x16 x17 x19 x92 .skip h)
theorem g9_24a_3 {β : Type} (call : CallF) (md : Bool) (kk : List AV → Heap → Option β) (x11 x13 x16 x17 x18 x19 x86 x87 x88 x89 x90 x91 x92 : AV) (h : Heap) :
    opsK C0 call md 9 (O9 24) (((O9 24).toList.drop 6).take 4) (st 109 [(11, x11), (13, x13), (16, x16), (17, x17), (18, x18), (19, x19), (86, x86), (87, x87), (88, x88), (89, x89), (90, x90), (91, x91), (92, x92)]) h kk =
    onG true x92 (
      bnd (aBinC tab .add 3 x11 (.int .i64 1) true) fun v19 =>
      bnd (aBinC tab .eql 3 x13 v19 false) fun v20 =>
      kk (st 109 [(11, x11), (13, x13), (16, x16), (17, x17), (18, x18), (19, x19), (86, x86), (87, x87), (88, x88), (89, x89), (90, x90), (91, x91), (92, x92), (93, x13), (94, x11), (95, v19), (96, v20)]) h) (
      kk (st 109 [(11, x11), (13, x13), (16, x16), (17, x17), (18, x18), (19, x19), (86, x86), (87, x87), (88, x88), (89, x89), (90, x90), (91, x91), (92, x92), (93, .skip), (94, .skip), (95, .skip), (96, .skip)]) h)
  := by cases x92 with | bool b => (cases b <;> kernel_rfl) | _ => kernel_rfl
theorem j9_24a_3 {β : Type} (call : CallF) (md : Bool) (k : Ex → List AV → Heap → Option β) (x11 x13 x16 x17 x18 x19 x86 x87 x88 x89 x90 x91 x92 : AV) (h : Heap) :
    opsK C0 call md 9 (O9 24) ((O9 24).toList.drop 6) (st 109 [(11, x11), (13, x13), (16, x16), (17, x17), (18, x18), (19, x19), (86, x86), (87, x87), (88, x88), (89, x89), (90, x90), (91, x91), (92, x92)]) h (fun tm h => k .normal (clr (C0.keep 9 24) tm) h) = J9_24a_3 call md k x11 x13 x16 x17 x19 x92 h := by
  have e : ((O9 24).toList.drop 6) = ((O9 24).toList.drop 6).take 4 ++ (O9 24).toList.drop 10 := by kernel_rfl
  rw [show opsK C0 call md 9 (O9 24) ((O9 24).toList.drop 6) = opsK C0 call md 9 (O9 24) (((O9 24).toList.drop 6).take 4 ++ (O9 24).toList.drop 10) from congrArg _ e]
  rw [opsK_append, g9_24a_3]
  simp only [j9_24a_4]
  rfl
def J9_24a_2 {β : Type} (call : CallF) (md : Bool) (k : Ex → List AV → Heap → Option β) (x11 x13 x16 x17 x19 x88 x90 : AV) (h : Heap) : Option β :=
    bnd (aPick x88 x90 (.bool false)) fun v21 =>
    J9_24a_3 call md k x11 x13 x16 x17 x19 v21 h
theorem g9_24a_2 {β : Type} (call : CallF) (md : Bool) (kk : List AV → Heap → Option β) (x11 x13 x16 x17 x18 x19 x86 x87 x88 x89 x90 : AV) (h : Heap) :
    opsK C0 call md 9 (O9 24) (((O9 24).toList.drop 4).take 2) (st 109 [(11, x11), (13, x13), (16, x16), (17, x17), (18, x18), (19, x19), (86, x86), (87, x87), (88, x88), (89, x89), (90, x90)]) h kk =
    bnd (aPick x88 x90 (.bool false)) fun v22 =>
    kk (st 109 [(11, x11), (13, x13), (16, x16), (17, x17), (18, x18), (19, x19), (86, x86), (87, x87), (88, x88), (89, x89), (90, x90), (91, v22), (92, v22)]) h
  := by kernel_rfl
theorem j9_24a_2 {β : Type} (call : CallF) (md : Bool) (k : Ex → List AV → Heap → Option β) (x11 x13 x16 x17 x18 x19 x86 x87 x88 x89 x90 : AV) (h : Heap) :
    opsK C0 call md 9 (O9 24) ((O9 24).toList.drop 4) (st 109 [(11, x11), (13, x13), (16, x16), (17, x17), (18, x18), (19, x19), (86, x86), (87, x87), (88, x88), (89, x89), (90, x90)]) h (fun tm h => k .normal (clr (C0.keep 9 24) tm) h) = J9_24a_2 call md k x11 x13 x16 x17 x19 x88 x90 h := by
  have e : ((O9 24).toList.drop 4) = ((O9 24).toList.drop 4).take 2 ++ (O9 24).toList.drop 6 := by kernel_rfl
  rw [show opsK C0 call md 9 (O9 24) ((O9 24).toList.drop 4) = opsK C0 call md 9 (O9 24) (((O9 24).toList.drop 4).take 2 ++ (O9 24).toList.drop 6) from congrArg _ e]
  rw [opsK_append, g9_24a_2]
  simp only [j9_24a_3]
  rfl
def J9_24a_1 {β : Type} (call : CallF) (md : Bool) (k : Ex → List AV → Heap → Option β) (x11 x13 x16 x17 x18 x19 x88 : AV) (h : Heap) : Option β :=
    onG true x88 (
      bnd (aBinC tab .eql 27 x18 (.int .i64 0) true) fun v23 =>
      J9_24a_2 call md k x11 x13 x16 x17 x19 x88 v23 h) (
      J9_24a_2 call md k x11 x13 x16 x17 x19 x88 .skip h)
theorem g9_24a_1 {β : Type} (call : CallF) (md : Bool) (kk : List AV → Heap → Option β) (x11 x13 x16 x17 x18 x19 x86 x87 x88 : AV) (h : Heap) :
    opsK C0 call md 9 (O9 24) (((O9 24).toList.drop 2).take 2) (st 109 [(11, x11), (13, x13), (16, x16), (17, x17), (18, x18), (19, x19), (86, x86), (87, x87), (88, x88)]) h kk =
    onG true x88 (
      bnd (aBinC tab .eql 27 x18 (.int .i64 0) true) fun v24 =>
      kk (st 109 [(11, x11), (13, x13), (16, x16), (17, x17), (18, x18), (19, x19), (86, x86), (87, x87), (88, x88), (89, x18), (90, v24)]) h) (
      kk (st 109 [(11, x11), (13, x13), (16, x16), (17, x17), (18, x18), (19, x19), (86, x86), (87, x87), (88, x88), (89, .skip), (90, .skip)]) h)
  := by cases x88 with | bool b => (cases b <;> kernel_rfl) | _ => kernel_rfl
theorem j9_24a_1 {β : Type} (call : CallF) (md : Bool) (k : Ex → List AV → Heap → Option β) (x11 x13 x16 x17 x18 x19 x86 x87 x88 : AV) (h : Heap) :
    opsK C0 call md 9 (O9 24) ((O9 24).toList.drop 2) (st 109 [(11, x11), (13, x13), (16, x16), (17, x17), (18, x18), (19, x19), (86, x86), (87, x87), (88, x88)]) h (fun tm h => k .normal (clr (C0.keep 9 24) tm) h) = J9_24a_1 call md k x11 x13 x16 x17 x18 x19 x88 h := by
  have e : ((O9 24).toList.drop 2) = ((O9 24).toList.drop 2).take 2 ++ (O9 24).toList.drop 4 := by kernel_rfl
  rw [show opsK C0 call md 9 (O9 24) ((O9 24).toList.drop 2) = opsK C0 call md 9 (O9 24) (((O9 24).toList.drop 2).take 2 ++ (O9 24).toList.drop 4) from congrArg _ e]
  rw [opsK_append, g9_24a_1]
  simp only [j9_24a_2]
  rfl
def J9_24a_0 {β : Type} (call : CallF) (md : Bool) (k : Ex → List AV → Heap → Option β) (x11 x13 x16 x17 x18 x19 : AV) (h : Heap) : Option β :=
    bnd2 (aCall call md (.fn (.func 36) []) [] h) fun v25 h26 =>
    J9_24a_1 call md k x11 x13 x16 x17 x18 x19 v25 h26
theorem g9_24a_0 {β : Type} (call : CallF) (md : Bool) (kk : List AV → Heap → Option β) (x11 x13 x16 x17 x18 x19 x86 : AV) (h : Heap) :
    opsK C0 call md 9 (O9 24) ((O9 24).toList.take 2) (st 109 [(11, x11), (13, x13), (16, x16), (17, x17), (18, x18), (19, x19), (86, x86)]) h kk =
    bnd2 (aCall call md (.fn (.func 36) []) [] h) fun v27 h28 =>
    kk (st 109 [(11, x11), (13, x13), (16, x16), (17, x17), (18, x18), (19, x19), (86, x86), (87, v27), (88, v27)]) h28
  := by kernel_rfl
theorem j9_24a_0 {β : Type} (call : CallF) (md : Bool) (k : Ex → List AV → Heap → Option β) (x11 x13 x16 x17 x18 x19 x86 : AV) (h : Heap) :
    opsK C0 call md 9 (O9 24) (O9 24).toList (st 109 [(11, x11), (13, x13), (16, x16), (17, x17), (18, x18), (19, x19), (86, x86)]) h (fun tm h => k .normal (clr (C0.keep 9 24) tm) h) = J9_24a_0 call md k x11 x13 x16 x17 x18 x19 h := by
  have e : (O9 24).toList = (O9 24).toList.take 2 ++ (O9 24).toList.drop 2 := by kernel_rfl
  rw [show opsK C0 call md 9 (O9 24) (O9 24).toList = opsK C0 call md 9 (O9 24) ((O9 24).toList.take 2 ++ (O9 24).toList.drop 2) from congrArg _ e]
  rw [opsK_append, g9_24a_0]
  simp only [j9_24a_1]
  rfl
theorem r9_24a {β : Type} (call : CallF) (md : Bool) (n : Nat) (k : Ex → List AV → Heap → Option β) (x11 x13 x16 x17 x18 x19 x86 : AV) (h : Heap) :
    runK C0 call md 9 n (.region 24 (O9 24) false) k (st 109 [(11, x11), (13, x13), (16, x16), (17, x17), (18, x18), (19, x19), (86, x86)]) h = J9_24a_0 call md k x11 x13 x16 x17 x18 x19 h := (runK_region C0 call md 9 n 24 (O9 24) k (st 109 [(11, x11), (13, x13), (16, x16), (17, x17), (18, x18), (19, x19), (86, x86)]) h).trans (j9_24a_0 call md k x11 x13 x16 x17 x18 x19 x86 h)
def J9_24b_8 {β : Type} (call : CallF) (md : Bool) (k : Ex → List AV → Heap → Option β) (x104 x107 : AV) (h : Heap) : Option β :=
    bnd (aPick x104 x107 (.bool false)) fun v1 =>
    k .normal (st 109 [(6, v1)]) h
theorem j9_24b_8 {β : Type} (call : CallF) (md : Bool) (k : Ex → List AV → Heap → Option β) (x11 x13 x16 x17 x18 x19 x87 x88 x89 x90 x91 x92 x93 x94 x95 x96 x97 x98 x99 x100 x101 x102 x103 x104 x105 x106 x107 : AV) (h : Heap) :
    opsK C0 call md 9 (O9 24) ((O9 24).toList.drop 21) (st 109 [(11, x11), (13, x13), (16, x16), (17, x17), (18, x18), (19, x19), (87, x87), (88, x88), (89, x89), (90, x90), (91, x91), (92, x92), (93, x93), (94, x94), (95, x95), (96, x96), (97, x97), (98, x98), (99, x99), (100, x100), (101, x101), (102, x102), (103, x103), (104, x104), (105, x105), (106, x106), (107, x107)]) h (fun tm h => k .normal (clr (C0.keep 9 24) tm) h) = J9_24b_8 call md k x104 x107 h := by kernel_rfl
def J9_24b_7 {β : Type} (call : CallF) (md : Bool) (k : Ex → List AV → Heap → Option β) (x17 x19 x104 : AV) (h : Heap) : Option β :=
    onG true x104 (
      bnd2 (aCall call md (.fn (.func 16) []) [x17, x19] h) fun v3 h4 =>
      J9_24b_8 call md k x104 v3 h4) (
      J9_24b_8 call md k x104 .skip h)
theorem g9_24b_7 {β : Type} (call : CallF) (md : Bool) (kk : List AV → Heap → Option β) (x11 x13 x16 x17 x18 x19 x87 x88 x89 x90 x91 x92 x93 x94 x95 x96 x97 x98 x99 x100 x101 x102 x103 x104 : AV) (h : Heap) :
    opsK C0 call md 9 (O9 24) (((O9 24).toList.drop 18).take 3) (st 109 [(11, x11), (13, x13), (16, x16), (17, x17), (18, x18), (19, x19), (87, x87), (88, x88), (89, x89), (90, x90), (91, x91), (92, x92), (93, x93), (94, x94), (95, x95), (96, x96), (97, x97), (98, x98), (99, x99), (100, x100), (101, x101), (102, x102), (103, x103), (104, x104)]) h kk =
    onG true x104 (
      bnd2 (aCall call md (.fn (.func 16) []) [x17, x19] h) fun v5 h6 =>
      kk (st 109 [(11, x11), (13, x13), (16, x16), (17, x17), (18, x18), (19, x19), (87, x87), (88, x88), (89, x89), (90, x90), (91, x91), (92, x92), (93, x93), (94, x94), (95, x95), (96, x96), (97, x97), (98, x98), (99, x99), (100, x100), (101, x101), (102, x102), (103, x103), (104, x104), (105, x17), (106, x19), (107, v5)]) h6) (
      kk (st 109 [(11, x11), (13, x13), (16, x16), (17, x17), (18, x18), (19, x19), (87, x87), (88, x88), (89, x89), (90, x90), (91, x91), (92, x92), (93, x93), (94, x94), (95, x95), (96, x96), (97, x97), (98, x98), (99, x99), (100, x100), (101, x101), (102, x102), (103, x103), (104, x104), (105, .skip), (106, .skip), (107, .skip)]) h)
  := by cases x104 with | bool b => (cases b <;> kernel_rfl) | _ => kernel_rfl
theorem j9_24b_7 {β : Type} (call : CallF) (md : Bool) (k : Ex → List AV → Heap → Option β) (x11 x13 x16 x17 x18 x19 x87 x88 x89 x90 x91 x92 x93 x94 x95 x96 x97 x98 x99 x100 x101 x102 x103 x104 : AV) (h : Heap) :
    opsK C0 call md 9 (O9 24) ((O9 24).toList.drop 18) (st 109 [(11, x11), (13, x13), (16, x16), (17, x17), (18, x18), (19, x19), (87, x87), (88, x88), (89, x89), (90, x90), (91, x91), (92, x92), (93, x93), (94, x94), (95, x95), (96, x96), (97, x97), (98, x98), (99, x99), (100, x100), (101, x101), (102, x102), (103, x103), (104, x104)]) h (fun tm h => k .normal (clr (C0.keep 9 24) tm) h) = J9_24b_7 call md k x17 x19 x104 h := by
  have e : ((O9 24).toList.drop 18) = ((O9 24).toList.drop 18).take 3 ++ (O9 24).toList.drop 21 := by kernel_rfl
  rw [show opsK C0 call md 9 (O9 24) ((O9 24).toList.drop 18) = opsK C0 call md 9 (O9 24) (((O9 24).toList.drop 18).take 3 ++ (O9 24).toList.drop 21) from congrArg _ e]
  rw [opsK_append, g9_24b_7]
  simp only [j9_24b_8]
  rfl
def J9_24b_6 {β : Type} (call : CallF) (md : Bool) (k : Ex → List AV → Heap → Option β) (x17 x19 x98 x102 : AV) (h : Heap) : Option β :=
    bnd (aPick x98 x102 (.bool false)) fun v7 =>
    J9_24b_7 call md k x17 x19 v7 h
theorem g9_24b_6 {β : Type} (call : CallF) (md : Bool) (kk : List AV → Heap → Option β) (x11 x13 x16 x17 x18 x19 x87 x88 x89 x90 x91 x92 x93 x94 x95 x96 x97 x98 x99 x100 x101 x102 : AV) (h : Heap) :
    opsK C0 call md 9 (O9 24) (((O9 24).toList.drop 16).take 2) (st 109 [(11, x11), (13, x13), (16, x16), (17, x17), (18, x18), (19, x19), (87, x87), (88, x88), (89, x89), (90, x90), (91, x91), (92, x92), (93, x93), (94, x94), (95, x95), (96, x96), (97, x97), (98, x98), (99, x99), (100, x100), (101, x101), (102, x102)]) h kk =
    bnd (aPick x98 x102 (.bool false)) fun v8 =>
    kk (st 109 [(11, x11), (13, x13), (16, x16), (17, x17), (18, x18), (19, x19), (87, x87), (88, x88), (89, x89), (90, x90), (91, x91), (92, x92), (93, x93), (94, x94), (95, x95), (96, x96), (97, x97), (98, x98), (99, x99), (100, x100), (101, x101), (102, x102), (103, v8), (104, v8)]) h
  := by kernel_rfl
theorem j9_24b_6 {β : Type} (call : CallF) (md : Bool) (k : Ex → List AV → Heap → Option β) (x11 x13 x16 x17 x18 x19 x87 x88 x89 x90 x91 x92 x93 x94 x95 x96 x97 x98 x99 x100 x101 x102 : AV) (h : Heap) :
    opsK C0 call md 9 (O9 24) ((O9 24).toList.drop 16) (st 109 [(11, x11), (13, x13), (16, x16), (17, x17), (18, x18), (19, x19), (87, x87), (88, x88), (89, x89), (90, x90), (91, x91), (92, x92), (93, x93), (94, x94), (95, x95), (96, x96), (97, x97), (98, x98), (99, x99), (100, x100), (101, x101), (102, x102)]) h (fun tm h => k .normal (clr (C0.keep 9 24) tm) h) = J9_24b_6 call md k x17 x19 x98 x102 h := by
  have e : ((O9 24).toList.drop 16) = ((O9 24).toList.drop 16).take 2 ++ (O9 24).toList.drop 18 := by kernel_rfl
  rw [show opsK C0 call md 9 (O9 24) ((O9 24).toList.drop 16) = opsK C0 call md 9 (O9 24) (((O9 24).toList.drop 16).take 2 ++ (O9 24).toList.drop 18) from congrArg _ e]
  rw [opsK_append, g9_24b_6]
  simp only [j9_24b_7]
  rfl
def J9_24b_5 {β : Type} (call : CallF) (md : Bool) (k : Ex → List AV → Heap → Option β) (x11 x16 x17 x19 x98 : AV) (h : Heap) : Option β :=
    onG true x98 (
      bnd2 (aCall call md (.fn (.func 37) []) [x16] h) fun v9 h10 =>
      bnd (aBinC tab .eql 3 v9 x11 false) fun v11 =>
      J9_24b_6 call md k x17 x19 x98 v11 h10) (
      J9_24b_6 call md k x17 x19 x98 .skip h)
theorem g9_24b_5 {β : Type} (call : CallF) (md : Bool) (kk : List AV → Heap → Option β) (x11 x13 x16 x17 x18 x19 x87 x88 x89 x90 x91 x92 x93 x94 x95 x96 x97 x98 : AV) (h : Heap) :
    opsK C0 call md 9 (O9 24) (((O9 24).toList.drop 12).take 4) (st 109 [(11, x11), (13, x13), (16, x16), (17, x17), (18, x18), (19, x19), (87, x87), (88, x88), (89, x89), (90, x90), (91, x91), (92, x92), (93, x93), (94, x94), (95, x95), (96, x96), (97, x97), (98, x98)]) h kk =
    onG true x98 (
      bnd2 (aCall call md (.fn (.func 37) []) [x16] h) fun v12 h13 =>
      bnd (aBinC tab .eql 3 v12 x11 false) fun v14 =>
      kk (st 109 [(11, x11), (13, x13), (16, x16), (17, x17), (18, x18), (19, x19), (87, x87), (88, x88), (89, x89), (90, x90), (91, x91), (92, x92), (93, x93), (94, x94), (95, x95), (96, x96), (97, x97), (98, x98), (99, x16), (100, v12), (101, x11), (102, v14)]) h13) (
      kk (st 109 [(11, x11), (13, x13), (16, x16), (17, x17), (18, x18), (19, x19), (87, x87), (88, x88), (89, x89), (90, x90), (91, x91), (92, x92), (93, x93), (94, x94), (95, x95), (96, x96), (97, x97), (98, x98), (99, .skip), (100, .skip), (101, .skip), (102, .skip)]) h)
  := by cases x98 with | bool b => (cases b <;> kernel_rfl) | _ => kernel_rfl
theorem j9_24b_5 {β : Type} (call : CallF) (md : Bool) (k : Ex → List AV → Heap → Option β) (x11 x13 x16 x17 x18 x19 x87 x88 x89 x90 x91 x92 x93 x94 x95 x96 x97 x98 : AV) (h : Heap) :
    opsK C0 call md 9 (O9 24) ((O9 24).toList.drop 12) (st 109 [(11, x11), (13, x13), (16, x16), (17, x17), (18, x18), (19, x19), (87, x87), (88, x88), (89, x89), (90, x90), (91, x91), (92, x92), (93, x93), (94, x94), (95, x95), (96, x96), (97, x97), (98, x98)]) h (fun tm h => k .normal (clr (C0.keep 9 24) tm) h) = J9_24b_5 call md k x11 x16 x17 x19 x98 h := by
  have e : ((O9 24).toList.drop 12) = ((O9 24).toList.drop 12).take 4 ++ (O9 24).toList.drop 16 := by kernel_rfl
  rw [show opsK C0 call md 9 (O9 24) ((O9 24).toList.drop 12) = opsK C0 call md 9 (O9 24) (((O9 24).toList.drop 12).take 4 ++ (O9 24).toList.drop 16) from congrArg _ e]
  rw [opsK_append, g9_24b_5]
  simp only [j9_24b_6]
  rfl
def J9_24b_4 {β : Type} (call : CallF) (md : Bool) (k : Ex → List AV → Heap → Option β) (x11 x16 x17 x19 x92 x96 : AV) (h : Heap) : Option β :=
    bnd (aPick x92 x96 (.bool false)) fun v15 =>
    J9_24b_5 call md k x11 x16 x17 x19 v15 h
theorem g9_24b_4 {β : Type} (call : CallF) (md : Bool) (kk : List AV → Heap → Option β) (x11 x13 x16 x17 x18 x19 x87 x88 x89 x90 x91 x92 x93 x94 x95 x96 : AV) (h : Heap) :
    opsK C0 call md 9 (O9 24) (((O9 24).toList.drop 10).take 2) (st 109 [(11, x11), (13, x13), (16, x16), (17, x17), (18, x18), (19, x19), (87, x87), (88, x88), (89, x89), (90, x90), (91, x91), (92, x92), (93, x93), (94, x94), (95, x95), (96, x96)]) h kk =
    bnd (aPick x92 x96 (.bool false)) fun v16 =>
    kk (st 109 [(11, x11), (13, x13), (16, x16), (17, x17), (18, x18), (19, x19), (87, x87), (88, x88), (89, x89), (90, x90), (91, x91), (92, x92), (93, x93), (94, x94), (95, x95), (96, x96), (97, v16), (98, v16)]) h
  := by kernel_rfl
theorem j9_24b_4 {β : Type} (call : CallF) (md : Bool) (k : Ex → List AV → Heap → Option β) (x11 x13 x16 x17 x18 x19 x87 x88 x89 x90 x91 x92 x93 x94 x95 x96 : AV) (h : Heap) :
    opsK C0 call md 9 (O9 24) ((O9 24).toList.drop 10) (st 109 [(11, x11), (13, x13), (16, x16), (17, x17), (18, x18), (19, x19), (87, x87), (88, x88), (89, x89), (90, x90), (91, x91), (92, x92), (93, x93), (94, x94), (95, x95), (96, x96)]) h (fun tm h => k .normal (clr (C0.keep 9 24) tm) h) = J9_24b_4 call md k x11 x16 x17 x19 x92 x96 h := by
  have e : ((O9 24).toList.drop 10) = ((O9 24).toList.drop 10).take 2 ++ (O9 24).toList.drop 12 := by kernel_rfl
  rw [show opsK C0 call md 9 (O9 24) ((O9 24).toList.drop 10) = opsK C0 call md 9 (O9 24) (((O9 24).toList.drop 10).take 2 ++ (O9 24).toList.drop 12) from congrArg _ e]
  rw [opsK_append, g9_24b_4]
  simp only [j9_24b_5]
  rfl
def J9_24b_3 {β : Type} (call : CallF) (md : Bool) (k : Ex → List AV → Heap → Option β) (x11 x13 x16 x17 x19 x92 : AV) (h : Heap) : Option β :=
    onG true x92 (
      bnd (aBinC tab .add 3 x11 (.int .i64 1) true) fun v17 =>
      bnd (aBinC tab .eql 3 x13 v17 false) fun v18 =>
      J9_24b_4 call md k x11 x16 x17 x19 x92 v18 h) (
      J9_24b_4 call md k x11 x16 x17 x19 x92 .skip h)
theorem g9_24b_3 {β : Type} (call : CallF) (md : Bool) (kk : List AV → Heap → Option β) (x11 x13 x16 x17 x18 x19 x87 x88 x89 x90 x91 x92 : AV) (h : Heap) :
    opsK C0 call md 9 (O9 24) (((O9 24).toList.drop 6).take 4) (st 109 [(11, x11), (13, x13), (16, x16), (17, x17), (18, x18), (19, x19), (87, x87), (88, x88), (89, x89), (90, x90), (91, x91), (92, x92)]) h kk =
    onG true x92 (
      bnd (aBinC tab .add 3 x11 (.int .i64 1) true) fun v19 =>
      bnd (aBinC tab .eql 3 x13 v19 false) fun v20 =>
      kk (st 109 [(11, x11), (13, x13), (16, x16), (17, x17), (18, x18), (19, x19), (87, x87), (88, x88), (89, x89), (90, x90), (91, x91), (92, x92), (93, x13), (94, x11), (95, v19), (96, v20)]) h) (
      kk (st 109 [(11, x11), (13, x13), (16, x16), (17, x17), (18, x18), (19, x19), (87, x87), (88, x88), (89, x89), (90, x90), (91, x91), (92, x92), (93, .skip), (94, .skip), (95, .skip), (96, .skip)]) h)
  := by cases x92 with | bool b => (cases b <;> kernel_rfl) | _ => kernel_rfl
theorem j9_24b_3 {β : Type} (call : CallF) (md : Bool) (k : Ex → List AV → Heap → Option β) (x11 x13 x16 x17 x18 x19 x87 x88 x89 x90 x91 x92 : AV) (h : Heap) :
    opsK C0 call md 9 (O9 24) ((O9 24).toList.drop 6) (st 109 [(11, x11), (13, x13), (16, x16), (17, x17), (18, x18), (19, x19), (87, x87), (88, x88), (89, x89), (90, x90), (91, x91), (92, x92)]) h (fun tm h => k .normal (clr (C0.keep 9 24) tm) h) = J9_24b_3 call md k x11 x13 x16 x17 x19 x92 h := by
  have e : ((O9 24).toList.drop 6) = ((O9 24).toList.drop 6).take 4 ++ (O9 24).toList.drop 10 := by kernel_rfl
  rw [show opsK C0 call md 9 (O9 24) ((O9 24).toList.drop 6) = opsK C0 call md 9 (O9 24) (((O9 24).toList.drop 6).take 4 ++ (O9 24).toList.drop 10) from congrArg _ e]
  rw [opsK_append, g9_24b_3]
  simp only [j9_24b_4]
  rfl
def J9_24b_2 {β : Type} (call : CallF) (md : Bool) (k : Ex → List AV → Heap → Option β) (x11 x13 x16 x17 x19 x88 x90 : AV) (h : Heap) : Option β :=
    bnd (aPick x88 x90 (.bool false)) fun v21 =>
    J9_24b_3 call md k x11 x13 x16 x17 x19 v21 h
theorem g9_24b_2 {β : Type} (call : CallF) (md : Bool) (kk : List AV → Heap → Option β) (x11 x13 x16 x17 x18 x19 x87 x88 x89 x90 : AV) (h : Heap) :
    opsK C0 call md 9 (O9 24) (((O9 24).toList.drop 4).take 2) (st 109 [(11, x11), (13, x13), (16, x16), (17, x17), (18, x18), (19, x19), (87, x87), (88, x88), (89, x89), (90, x90)]) h kk =
    bnd (aPick x88 x90 (.bool false)) fun v22 =>
    kk (st 109 [(11, x11), (13, x13), (16, x16), (17, x17), (18, x18), (19, x19), (87, x87), (88, x88), (89, x89), (90, x90), (91, v22), (92, v22)]) h
  := by kernel_rfl
theorem j9_24b_2 {β : Type} (call : CallF) (md : Bool) (k : Ex → List AV → Heap → Option β) (x11 x13 x16 x17 x18 x19 x87 x88 x89 x90 : AV) (h : Heap) :
    opsK C0 call md 9 (O9 24) ((O9 24).toList.drop 4) (st 109 [(11, x11), (13, x13), (16, x16), (17, x17), (18, x18), (19, x19), (87, x87), (88, x88), (89, x89), (90, x90)]) h (fun tm h => k .normal (clr (C0.keep 9 24) tm) h) = J9_24b_2 call md k x11 x13 x16 x17 x19 x88 x90 h := by
  have e : ((O9 24).toList.drop 4) = ((O9 24).toList.drop 4).take 2 ++ (O9 24).toList.drop 6 := by kernel_rfl
  rw [show opsK C0 call md 9 (O9 24) ((O9 24).toList.drop 4) = opsK C0 call md 9 (O9 24) (((O9 24).toList.drop 4).take 2 ++ (O9 24).toList.drop 6) from congrArg _ e]
  rw [opsK_append, g9_24b_2]
  simp only [j9_24b_3]
  rfl
def J9_24b_1 {β : Type} (call : CallF) (md : Bool) (k : Ex → List AV → Heap → Option β) (x11 x13 x16 x17 x18 x19 x88 : AV) (h : Heap) : Option β :=
    onG true x88 (
      bnd (aBinC tab .eql 27 x18 (.int .i64 0) true) fun v23 =>
      J9_24b_2 call md k x11 x13 x16 x17 x19 x88 v23 h) (
      J9_24b_2 call md k x11 x13 x16 x17 x19 x88 .skip h)
theorem g9_24b_1 {β : Type} (call : CallF) (md : Bool) (kk : List AV → Heap → Option β) (x11 x13 x16 x17 x18 x19 x87 x88 : AV) (h : Heap) :
    opsK C0 call md 9 (O9 24) (((O9 24).toList.drop 2).take 2) (st 109 [(11, x11), (13, x13), (16, x16), (17, x17), (18, x18), (19, x19), (87, x87), (88, x88)]) h kk =
    onG true x88 (
      bnd (aBinC tab .eql 27 x18 (.int .i64 0) true) fun v24 =>
      kk (st 109 [(11, x11), (13, x13), (16, x16), (17, x17), (18, x18), (19, x19), (87, x87), (88, x88), (89, x18), (90, v24)]) h) (
      kk (st 109 [(11, x11), (13, x13), (16, x16), (17, x17), (18, x18), (19, x19), (87, x87), (88, x88), (89, .skip), (90, .skip)]) h)
  := by cases x88 with | bool b => (cases b <;> kernel_rfl) | _ => kernel_rfl
theorem j9_24b_1 {β : Type} (call : CallF) (md : Bool) (k : Ex → List AV → Heap → Option β) (x11 x13 x16 x17 x18 x19 x87 x88 : AV) (h : Heap) :
    opsK C0 call md 9 (O9 24) ((O9 24).toList.drop 2) (st 109 [(11, x11), (13, x13), (16, x16), (17, x17), (18, x18), (19, x19), (87, x87), (88, x88)]) h (fun tm h => k .normal (clr (C0.keep 9 24) tm) h) = J9_24b_1 call md k x11 x13 x16 x17 x18 x19 x88 h := by
  have e : ((O9 24).toList.drop 2) = ((O9 24).toList.drop 2).take 2 ++ (O9 24).toList.drop 4 := by kernel_rfl
  rw [show opsK C0 call md 9 (O9 24) ((O9 24).toList.drop 2) = opsK C0 call md 9 (O9 24) (((O9 24).toList.drop 2).take 2 ++ (O9 24).toList.drop 4) from congrArg _ e]
  rw [opsK_append, g9_24b_1]
  simp only [j9_24b_2]
  rfl
def J9_24b_0 {β : Type} (call : CallF) (md : Bool) (k : Ex → List AV → Heap → Option β) (x11 x13 x16 x17 x18 x19 : AV) (h : Heap) : Option β :=
    bnd2 (aCall call md (.fn (.func 36) []) [] h) fun v25 h26 =>
    J9_24b_1 call md k x11 x13 x16 x17 x18 x19 v25 h26
theorem g9_24b_0 {β : Type} (call : CallF) (md : Bool) (kk : List AV → Heap → Option β) (x11 x13 x16 x17 x18 x19 : AV) (h : Heap) :
    opsK C0 call md 9 (O9 24) ((O9 24).toList.take 2) (st 109 [(11, x11), (13, x13), (16, x16), (17, x17), (18, x18), (19, x19)]) h kk =
    bnd2 (aCall call md (.fn (.func 36) []) [] h) fun v27 h28 =>
    kk (st 109 [(11, x11), (13, x13), (16, x16), (17, x17), (18, x18), (19, x19), (87, v27), (88, v27)]) h28
  := by kernel_rfl
theorem j9_24b_0 {β : Type} (call : CallF) (md : Bool) (k : Ex → List AV → Heap → Option β) (x11 x13 x16 x17 x18 x19 : AV) (h : Heap) :
    opsK C0 call md 9 (O9 24) (O9 24).toList (st 109 [(11, x11), (13, x13), (16, x16), (17, x17), (18, x18), (19, x19)]) h (fun tm h => k .normal (clr (C0.keep 9 24) tm) h) = J9_24b_0 call md k x11 x13 x16 x17 x18 x19 h := by
  have e : (O9 24).toList = (O9 24).toList.take 2 ++ (O9 24).toList.drop 2 := by kernel_rfl
  rw [show opsK C0 call md 9 (O9 24) (O9 24).toList = opsK C0 call md 9 (O9 24) ((O9 24).toList.take 2 ++ (O9 24).toList.drop 2) from congrArg _ e]
  rw [opsK_append, g9_24b_0]
  simp only [j9_24b_1]
  rfl
theorem r9_24b {β : Type} (call : CallF) (md : Bool) (n : Nat) (k : Ex → List AV → Heap → Option β) (x11 x13 x16 x17 x18 x19 : AV) (h : Heap) :
    runK C0 call md 9 n (.region 24 (O9 24) false) k (st 109 [(11, x11), (13, x13), (16, x16), (17, x17), (18, x18), (19, x19)]) h = J9_24b_0 call md k x11 x13 x16 x17 x18 x19 h := (runK_region C0 call md 9 n 24 (O9 24) k (st 109 [(11, x11), (13, x13), (16, x16), (17, x17), (18, x18), (19, x19)]) h).trans (j9_24b_0 call md k x11 x13 x16 x17 x18 x19 h)
end Go.Ax

namespace Go.Ax
open Go Go.Proofs
theorem clone_true {U : Obs} {x : AV} {l : List UInt8} {h : Heap} (b : By U h x l) (h0 : l ≠ []) (hl : l.length < 2 ^ 39) (k : Nat) :
    exFn C0 E0 (k + 1) true 52 [x] h = some (.msl h.length [] 5 0 l.length, h ++ [.row 5 (l.map U8)]) := by
  obtain ⟨c, hc, hn⟩ := eql_nils x l U h b
  have n0 : ([x] ++ List.replicate (8 - [x].length) AV.undef) = st 8 [(0, x)] := rfl
  cases c
  · have e : aAppend tab 5 true (.vsl 5 [] .exact) (l.map U8) h = some (.msl h.length [] 5 0 l.length, h ++ [.row 5 (l.map U8)]) := by
      cases l with
      | nil => exact absurd rfl h0
      | cons a l =>
        simp only [aAppend, List.map_cons]
        rw [if_pos ⟨by simp, by simp; simp at hl; omega, by simp; simp at hl; omega, by simp, by simp⟩]
        simp
    refine exFn_of e52 ?_
    rw [fnK, n0, s52]
    simp -implicitDefEqProofs only [↓runK_seq, runK_seq, ↓runK_cond, runK_cond, ↓runK_block, runK_block, ↓runK_loop, runK_loop, ↓runK_skip, runK_skip, ↓runK_ret, runK_ret, ↓runK_exit, runK_exit, ↓seqE_n, seqE_n, ↓seqE_e, seqE_e, ↓seqE_r, seqE_r, ↓blkE_n, blkE_n, ↓blkE_e, blkE_e, ↓blkE_r, blkE_r, ↓retK_n, retK_n, ↓retK_r, retK_r, ↓aCall_fn, aCall_fn, ↓bnd_s, bnd_s, ↓bnd2_s, bnd2_s, ↓onB_t, onB_t, ↓onB_f, onB_f, ↓onG_tt, onG_tt, ↓onG_tf, onG_tf, ↓onG_ft, onG_ft, ↓onG_ff, onG_ff, ↓onG_s, onG_s, ↓onT_t, onT_t, ↓aPick_t, aPick_t, ↓aPick_f, aPick_f, decide_true, decide_false, st_tmp, results1, results2, List.lookup_cons, List.lookup_nil, Nat.reduceBEq, Bool.false_eq_true, ↓reduceIte, BEq.rfl, Nat.reduceLT, Option.getD_some, Option.getD_none, ↓r52_0, r52_0, ↓r52_1, r52_1, ↓r52_2, r52_2, ↓r52_3, r52_3, hc, lit22_0, app22t b.src, e]
  · obtain ⟨-, rfl⟩ := hn rfl
    exact absurd rfl h0
theorem lasts_true {S : Obs} {p r : Nat} {h : Heap} {d : Dk} (D : Dsk S h p r d) (n : Nat) (hn : n < d.lasts.length) (k : Nat) :
    exFn C0 E0 (k + 3) true 20 [dp p, .int .i64 n] h = some (.tuple [.msl h.length [] 5 0 64, .int .i64 0], h ++ [.row 5 ((d.lasts[n]).map U8)]) := by
  have n0 : ([dp p, .int .i64 n] ++ List.replicate (18 - [dp p, AV.int .i64 n].length) AV.undef) = st 18 [(0, dp p), (1, .int .i64 n)] := rfl
  have e0 : decide (d.has n) = true := decide_eq_true ⟨by omega, by omega⟩
  have hl : (d.lasts[n]).length = 64 := D.cells _ (List.getElem_mem hn)
  have h2 := clone_true (row_cell D hn) (by intro e; rw [e] at hl; simp at hl) (by omega) (k + 1)
  rw [hl] at h2
  obtain ⟨x, hx, ha⟩ := D.var
  refine exFn_of e20 ?_
  rw [fnK, n0, s20]
  simp -implicitDefEqProofs only [↓runK_seq, runK_seq, ↓runK_cond, runK_cond, ↓runK_block, runK_block, ↓runK_loop, runK_loop, ↓runK_skip, runK_skip, ↓runK_ret, runK_ret, ↓runK_exit, runK_exit, ↓seqE_n, seqE_n, ↓seqE_e, seqE_e, ↓seqE_r, seqE_r, ↓blkE_n, blkE_n, ↓blkE_e, blkE_e, ↓blkE_r, blkE_r, ↓retK_n, retK_n, ↓retK_r, retK_r, ↓aCall_fn, aCall_fn, ↓bnd_s, bnd_s, ↓bnd2_s, bnd2_s, ↓onB_t, onB_t, ↓onB_f, onB_f, ↓onG_tt, onG_tt, ↓onG_tf, onG_tf, ↓onG_ft, onG_ft, ↓onG_ff, onG_ff, ↓onG_s, onG_s, ↓onT_t, onT_t, ↓aPick_t, aPick_t, ↓aPick_f, aPick_f, decide_true, decide_false, st_tmp, results1, results2, List.lookup_cons, List.lookup_nil, Nat.reduceBEq, Bool.false_eq_true, ↓reduceIte, BEq.rfl, Nat.reduceLT, Option.getD_some, Option.getD_none, ↓r20_0, r20_0, ↓r20_1, r20_1, ↓r20_2, r20_2, ↓r20_3, r20_3, there_ok D, e0, un_not, Bool.not_true, dp_chk, dpf0, dld0 hx, idx81 r _ n hn, sl89, h2]
theorem pending_true {S : Obs} {p r : Nat} {h : Heap} {d : Dk} (D : Dsk S h p r d) (hl : d.loose = []) (k : Nat) : exFn C0 E0 (k + 2) true 53 [dp p] h = some (.nils, h) := by
  obtain ⟨x, hx, ha⟩ := D.var
  have n0 : ([dp p] ++ List.replicate (24 - [dp p].length) AV.undef) = st 24 [(0, dp p)] := rfl
  have hlen := len82 ha
  rw [List.length_map, hl] at hlen
  have e : decide ((0 : Int) < 0) = false := by decide
  refine exFn_of e53 ?_
  rw [fnK, n0, s53]
  simp -implicitDefEqProofs only [↓runK_seq, runK_seq, ↓runK_cond, runK_cond, ↓runK_block, runK_block, ↓runK_loop, runK_loop, ↓runK_skip, runK_skip, ↓runK_ret, runK_ret, ↓runK_exit, runK_exit, ↓seqE_n, seqE_n, ↓seqE_e, seqE_e, ↓seqE_r, seqE_r, ↓blkE_n, blkE_n, ↓blkE_e, blkE_e, ↓blkE_r, blkE_r, ↓retK_n, retK_n, ↓retK_r, retK_r, ↓aCall_fn, aCall_fn, ↓bnd_s, bnd_s, ↓bnd2_s, bnd2_s, ↓onB_t, onB_t, ↓onB_f, onB_f, ↓onG_tt, onG_tt, ↓onG_tf, onG_tf, ↓onG_ft, onG_ft, ↓onG_ff, onG_ff, ↓onG_s, onG_s, ↓onT_t, onT_t, ↓aPick_t, aPick_t, ↓aPick_f, aPick_f, decide_true, decide_false, st_tmp, results1, results2, List.lookup_cons, List.lookup_nil, Nat.reduceBEq, Bool.false_eq_true, ↓reduceIte, BEq.rfl, Nat.reduceLT, Option.getD_some, Option.getD_none, ↓r53_0, r53_0, ↓r53_1, r53_1, ↓r53_2, r53_2, ↓r53_3, r53_3, ↓r53_4, r53_4, ↓r53_5, r53_5, ↓r53_6, r53_6, ↓r53_7, r53_7, ↓r53_8, r53_8, ↓r53_9, r53_9, dp_nil, dp_chk, dpf1, dld1 hx, hlen, List.length_nil]
  rw [loopK_succ]
  generalize loopK (_ : (List AV → Heap → Option (AV × Heap)) → List AV → Heap → Option (AV × Heap)) k = Lp
  rw [show ((0 : Nat) : Int) = 0 from rfl]
  simp -implicitDefEqProofs only [B53_1, ↓runK_seq, runK_seq, ↓runK_cond, runK_cond, ↓runK_block, runK_block, ↓runK_loop, runK_loop, ↓runK_skip, runK_skip, ↓runK_ret, runK_ret, ↓runK_exit, runK_exit, ↓seqE_n, seqE_n, ↓seqE_e, seqE_e, ↓seqE_r, seqE_r, ↓blkE_n, blkE_n, ↓blkE_e, blkE_e, ↓blkE_r, blkE_r, ↓retK_n, retK_n, ↓retK_r, retK_r, ↓aCall_fn, aCall_fn, ↓bnd_s, bnd_s, ↓bnd2_s, bnd2_s, ↓onB_t, onB_t, ↓onB_f, onB_f, ↓onG_tt, onG_tt, ↓onG_tf, onG_tf, ↓onG_ft, onG_ft, ↓onG_ff, onG_ff, ↓onG_s, onG_s, ↓onT_t, onT_t, ↓aPick_t, aPick_t, ↓aPick_f, aPick_f, decide_true, decide_false, st_tmp, results1, results2, List.lookup_cons, List.lookup_nil, Nat.reduceBEq, Bool.false_eq_true, ↓reduceIte, BEq.rfl, Nat.reduceLT, Option.getD_some, Option.getD_none, ↓r53_0, r53_0, ↓r53_1, r53_1, ↓r53_2, r53_2, ↓r53_3, r53_3, ↓r53_4, r53_4, ↓r53_5, r53_5, ↓r53_6, r53_6, ↓r53_7, r53_7, ↓r53_8, r53_8, ↓r53_9, r53_9, bin_lss, e]
theorem read_true {S : Obs} {p r : Nat} {h : Heap} {d : Dk} (D : Dsk S h p r d) (hl : d.loose = []) (n : Nat) (hn : n < d.lasts.length) (k : Nat) :
    exFn C0 E0 (k + 4) true 38 [dp p, .int .i64 n] h = some (.tuple [.msl h.length [] 5 0 64, .int .i64 0], h ++ [.row 5 ((d.lasts[n]).map U8)]) := by
  have n0 : ([dp p, .int .i64 n] ++ List.replicate (48 - [dp p, AV.int .i64 n].length) AV.undef) = st 48 [(0, dp p), (1, .int .i64 n)] := rfl
  have l1 := lasts_true D n hn k
  have D1 := D.fresh (Keep.app h [.row 5 ((d.lasts[n]).map U8)] (Up.fresh h))
  have p1 := pending_true D1 hl (k + 1)
  have ln : aLen tab 93 .nils = some (.int .i64 0) := by simp [aLen]
  have wr : IntKind.i64.wrap ((0 : Int) - 1) = -1 := by decide
  have e : decide ((0 : Int) ≤ -1) = false := by decide
  refine exFn_of e38 ?_
  rw [fnK, n0, s38]
  simp -implicitDefEqProofs only [↓runK_seq, runK_seq, ↓runK_cond, runK_cond, ↓runK_block, runK_block, ↓runK_loop, runK_loop, ↓runK_skip, runK_skip, ↓runK_ret, runK_ret, ↓runK_exit, runK_exit, ↓seqE_n, seqE_n, ↓seqE_e, seqE_e, ↓seqE_r, seqE_r, ↓blkE_n, blkE_n, ↓blkE_e, blkE_e, ↓blkE_r, blkE_r, ↓retK_n, retK_n, ↓retK_r, retK_r, ↓aCall_fn, aCall_fn, ↓bnd_s, bnd_s, ↓bnd2_s, bnd2_s, ↓onB_t, onB_t, ↓onB_f, onB_f, ↓onG_tt, onG_tt, ↓onG_tf, onG_tf, ↓onG_ft, onG_ft, ↓onG_ff, onG_ff, ↓onG_s, onG_s, ↓onT_t, onT_t, ↓aPick_t, aPick_t, ↓aPick_f, aPick_f, decide_true, decide_false, st_tmp, results1, results2, List.lookup_cons, List.lookup_nil, Nat.reduceBEq, Bool.false_eq_true, ↓reduceIte, BEq.rfl, Nat.reduceLT, Option.getD_some, Option.getD_none, ↓r38_0, r38_0, ↓r38_1, r38_1, ↓r38_2, r38_2, ↓r38_3, r38_3, J38_3_0, J38_3_1, J38_3_2, ↓r38_4, r38_4, ↓r38_5, r38_5, ↓r38_6, r38_6, ↓r38_7, r38_7, l1, ext0, ext1, p1, ln, bin_sub, wr]
  rw [loopK_succ]
  generalize loopK (_ : (List AV → Heap → Option (AV × Heap)) → List AV → Heap → Option (AV × Heap)) _ = Lp
  simp -implicitDefEqProofs only [B38_1, ↓runK_seq, runK_seq, ↓runK_cond, runK_cond, ↓runK_block, runK_block, ↓runK_loop, runK_loop, ↓runK_skip, runK_skip, ↓runK_ret, runK_ret, ↓runK_exit, runK_exit, ↓seqE_n, seqE_n, ↓seqE_e, seqE_e, ↓seqE_r, seqE_r, ↓blkE_n, blkE_n, ↓blkE_e, blkE_e, ↓blkE_r, blkE_r, ↓retK_n, retK_n, ↓retK_r, retK_r, ↓aCall_fn, aCall_fn, ↓bnd_s, bnd_s, ↓bnd2_s, bnd2_s, ↓onB_t, onB_t, ↓onB_f, onB_f, ↓onG_tt, onG_tt, ↓onG_tf, onG_tf, ↓onG_ft, onG_ft, ↓onG_ff, onG_ff, ↓onG_s, onG_s, ↓onT_t, onT_t, ↓aPick_t, aPick_t, ↓aPick_f, aPick_f, decide_true, decide_false, st_tmp, results1, results2, List.lookup_cons, List.lookup_nil, Nat.reduceBEq, Bool.false_eq_true, ↓reduceIte, BEq.rfl, Nat.reduceLT, Option.getD_some, Option.getD_none, ↓r38_0, r38_0, ↓r38_1, r38_1, ↓r38_2, r38_2, ↓r38_3, r38_3, J38_3_0, J38_3_1, J38_3_2, ↓r38_4, r38_4, ↓r38_5, r38_5, ↓r38_6, r38_6, ↓r38_7, r38_7, bin_geq, e]
theorem super_spoilt (g j : Nat) (hj : j < 64) (t : UInt8) (ht : t ≠ 0) (n : Nat) : superGen ((pad (superOf g)).set j ((((pad (superOf g))[j]?).getD 0) ^^^ t)) n = 0 := by
  have hl : (pad (superOf g)).length = 64 := pad_length _ (by rw [superOf_length]; omega)
  have hx : ∀ b : UInt8, b ^^^ t ≠ b := by
    intro b e
    apply ht
    have := congrArg (b ^^^ ·) e
    simpa [← UInt8.xor_assoc] using this
  have hjl : j < (pad (superOf g)).length := by omega
  rw [List.getElem?_eq_getElem hjl, Option.getD_some]
  generalize hb : (pad (superOf g))[j] = b
  generalize hc : b ^^^ t = c
  have hcb : c ≠ b := by rw [← hc]; exact hx b
  generalize hL : (pad (superOf g)).set j c = L
  have key : ∀ g', (get4 L).toNat = g' → superOf g' = L.take 8 → (L.drop 8).all (· == 0) = true → False := by
    intro g' h1 h2 h3
    by_cases q8 : 8 ≤ j
    · have h4 : L[j]? = some c := by rw [← hL, List.getElem?_set_self hjl]
      have h5 : (L.drop 8)[j - 8]? = some c := by rw [List.getElem?_drop, show 8 + (j - 8) = j by omega, h4]
      have h6 := List.all_eq_true.1 h3 c (List.mem_of_getElem? h5)
      have h7 : b = 0 := by
        have : (pad (superOf g))[j]? = some b := by rw [List.getElem?_eq_getElem hjl, hb]
        rw [pad_super, ← List.append_assoc, List.getElem?_append_right (by simp [be4]; omega), List.getElem?_replicate] at this
        split at this
        · exact (Option.some.inj this).symm
        · cases this
      apply hcb
      rw [h7]
      simpa using h6
    · have e8 : L.take 8 = (superOf g).set j c := by
        rw [← hL, List.take_set, show (pad (superOf g)).take 8 = superOf g by rw [pad_super]; rfl]
      rw [e8] at h2
      by_cases q4 : 4 ≤ j
      · -- the sum is another one
        have t4 : (superOf g).take 4 = be4 (BitVec.ofNat 32 g) := rfl
        have t4' : (superOf g').take 4 = be4 (BitVec.ofNat 32 g') := rfl
        have h5 := congrArg (List.take 4) h2
        rw [t4', List.take_set_of_le (by omega), t4] at h5
        have h6 := congrArg (fun l => get4 (l ++ [])) h5
        simp only [get4_be4] at h6
        have h7 : superOf g' = superOf g := by unfold superOf; rw [h6]
        rw [h7] at h2
        have h8 : (superOf g)[j]? = some c := by
          rw [h2, List.getElem?_set_self (by rw [superOf_length]; omega)]
        have h9 : (pad (superOf g))[j]? = (superOf g)[j]? := by unfold pad; rw [List.getElem?_append_left (by rw [superOf_length]; omega)]
        rw [h8, List.getElem?_eq_getElem hjl, hb] at h9
        exact hcb (Option.some.inj h9).symm
      · have t4 : ∀ g, (superOf g).take 4 = be4 (BitVec.ofNat 32 g) := fun _ => rfl
        have d4 : ∀ g, (superOf g).drop 4 = be4 (crc (be4 (BitVec.ofNat 32 g))) := fun _ => rfl
        have h5 := congrArg (List.take 4) h2
        rw [t4, List.take_set, t4] at h5
        have h6 := congrArg (List.drop 4) h2
        rw [d4, List.drop_set_of_lt (by omega), d4] at h6
        have h7 := congrArg (fun l => get4 (l ++ [])) h6
        simp only [get4_be4] at h7
        rw [h5] at h7
        have h8 := crc_set (l := be4 (BitVec.ofNat 32 g)) (j := j) (c := c) (by simp [be4]; omega) h7
        apply hcb
        rw [h8, ← hb]
        have : (pad (superOf g))[j]? = (be4 (BitVec.ofNat 32 g))[j]? := by rw [pad_super, List.getElem?_append_left (by simp [be4]; omega)]
        rw [List.getElem?_eq_getElem hjl, List.getElem?_eq_getElem (by simp [be4]; omega)] at this
        exact (Option.some.inj this).symm
  rw [superGen_eq (g := (get4 L).toNat) rfl, if_neg]
  rintro ⟨-, h2, h3⟩
  exact key _ rfl h2 h3
end Go.Ax

namespace Go.Ax
open Go Go.Proofs
theorem Log.back {l : List (List UInt8)} {gen pos : Nat} {es : List (List UInt8)} (L : Log l gen es pos) {b : List UInt8} (hf : nOf b ≤ halfOf l.length) {c : List UInt8} (hc : c.length = 64) (hs : superGen c ((gen + 1) % 2) ≤ gen) (hp : ∀ x ∈ pointed l (gen + 1) b, x.length = 64) :
    Log ((pointed l (gen + 1) b).set ((gen + 1) % 2) c) gen es pos := by
  have h1 := L.lo
  have hto := toOf_le l.length (gen + 1) (by omega)
  have hft : toOf l.length (gen + 1) = fromOf l.length (gen + 1) + halfOf l.length := rfl
  have hfr := from_ge l.length (gen + 1)
  have hfr2 := from_ge l.length gen
  have hwl := wiped_length l (fromOf l.length (gen + 1)) (toOf l.length (gen + 1))
  have hpl : (pointed l (gen + 1) b).length = l.length := by unfold pointed; rw [List.length_set, laid_length, hwl]
  have hm2 : (gen + 1) % 2 < 2 := Nat.mod_lt _ (by decide)
  have hlo := laid_other (wiped l (fromOf l.length (gen + 1)) (toOf l.length (gen + 1))) (fromOf l.length (gen + 1)) ((gen + 1 : Nat) : Int) b (by omega)
  have same : ∀ i, i ≠ (gen + 1) % 2 → ¬ (fromOf l.length (gen + 1) ≤ i ∧ i < toOf l.length (gen + 1)) → ((pointed l (gen + 1) b).set ((gen + 1) % 2) c)[i]? = l[i]? := by
    intro i h0 h3
    rw [List.getElem?_set_ne (by omega)]
    unfold pointed
    rw [List.getElem?_set_ne (by omega), hlo i (by omega), wiped_out h3]
  have reg : ∀ i, fromOf l.length gen ≤ i → i < toOf l.length gen → ((pointed l (gen + 1) b).set ((gen + 1) % 2) c)[i]? = l[i]? := fun i i1 i2 =>
    same i (by omega) (other_region l.length gen i i1 i2)
  have hle := L.le
  have hen := L.ents.le
  refine ⟨by rw [List.length_set]; omega, by rw [List.length_set, hpl]; exact L.hi, ?_, L.g1, L.g2, ?_, ?_, by rw [List.length_set, hpl]; exact hle, fun i i1 i2 => ?_⟩
  · intro x hm
    rcases List.mem_or_eq_of_mem_set hm with hm | rfl
    · exact hp x hm
    · exact hc
  · refine newest_of ?_ ?_
    · rw [same (gen % 2) (by omega) (by omega)]
      exact (newest_slot L.new L.g1).1
    · rw [List.getElem?_set_self (by omega)]
      exact hs
  · rw [List.length_set, hpl]
    exact L.ents.congr fun i i1 i2 => reg i i1 (by omega)
  · rw [List.length_set, hpl] at i2
    rw [reg i (by omega) i2]
    exact L.rest i i1 i2
def sqL : Nat → List (List UInt8)
  | 0 => (List.replicate 80 zs).set 1 (pad (superOf 1))
  | i + 1 => pointed (sqL i) (i + 2) [UInt8.ofNat i]
def sqE : Nat → List (List UInt8)
  | 0 => []
  | i + 1 => [[UInt8.ofNat i]]
def sqP : Nat → Nat
  | 0 => fromOf 80 1
  | i + 1 => fromOf 80 (i + 2) + 2
theorem nOf_one (c : UInt8) : nOf [c] = 2 := by rw [nOf_eq', List.length_singleton]
theorem seq_len : ∀ i, (sqL i).length = 80
  | 0 => by simp [sqL]
  | i + 1 => by rw [sqL]; unfold pointed; rw [List.length_set, laid_length, wiped_length, seq_len i]
theorem seq_step (i : Nat) (hi : i < 2147483640) (L : Log (sqL i) (i + 1) (sqE i) (sqP i)) :
    (Wl.mk (Calm (sqL i)) (i + 1) (sqP i) false).checkpoint [UInt8.ofNat i] = (0, ⟨Calm (sqL (i + 1)), i + 2, sqP (i + 1), false⟩) ∧ Log (sqL (i + 1)) (i + 2) (sqE (i + 1)) (sqP (i + 1)) := by
  have := L.checkpoint (b := [UInt8.ofNat i]) (by simp) (by omega) (by rw [nOf_one, seq_len]; decide)
  rw [nOf_one, seq_len] at this
  exact this
theorem seq_log : ∀ i, i < 2147483640 → Log (sqL i) (i + 1) (sqE i) (sqP i)
  | 0, _ => (open_blank 80 (by omega) (by omega)).2
  | i + 1, h => (seq_step i (by omega) (seq_log i (by omega))).2
theorem supers_loop (x1 x2 : AV) {S : Obs} {q p r : Nat} (N : Nat) (hN : 10400 < N) (K : Nat) (hK : K < 1000) :
    ∀ (m i n : Nat) (h : Heap), i + m = K → m < n → Up S h → Lsk S h q p r ⟨Calm (sqL i), i + 1, sqP i, false⟩ →
    ∃ h', (∀ Kc : Ex → List AV → Heap → Option (AV × Heap), loopK (fun next => runK C0 (exFn C0 E0 (N + 1)) false 9 (N + 1) B9_1 (seqE next Kc)) n (st 109 [(1, x1), (2, x2), (7, dp p), (8, lp q), (11, .int .i64 K), (12, .int .i64 i)]) h =
      Kc (.exit 0) (st 109 [(1, x1), (2, x2), (7, dp p), (8, lp q), (11, .int .i64 K), (12, .int .i64 K), (38, .bool false)]) h') ∧
      Lsk S h' q p r ⟨Calm (sqL K), K + 1, sqP K, false⟩ ∧ Keep S h h' := by
  intro m
  induction m with
  | zero =>
    intro i n h hi hn up W
    obtain ⟨n, rfl⟩ : ∃ j, n = j + 1 := ⟨n - 1, by omega⟩
    obtain rfl : i = K := by omega
    refine ⟨h, fun Kc => ?_, W, Keep.refl _ _⟩
    rw [loopK_succ]
    generalize loopK (_ : (List AV → Heap → Option (AV × Heap)) → List AV → Heap → Option (AV × Heap)) n = Lp
    have e : decide (((i : Nat) : Int) < (i : Nat)) = false := decide_eq_false (by omega)
    simp -implicitDefEqProofs only [B9_1, ↓runK_seq, runK_seq, ↓runK_cond, runK_cond, ↓runK_block, runK_block, ↓runK_loop, runK_loop, ↓runK_skip, runK_skip, ↓runK_ret, runK_ret, ↓runK_exit, runK_exit, ↓seqE_n, seqE_n, ↓seqE_e, seqE_e, ↓seqE_r, seqE_r, ↓blkE_n, blkE_n, ↓blkE_e, blkE_e, ↓blkE_r, blkE_r, ↓retK_n, retK_n, ↓retK_r, retK_r, ↓aCall_fn, aCall_fn, ↓bnd_s, bnd_s, ↓bnd2_s, bnd2_s, ↓onB_t, onB_t, ↓onB_f, onB_f, ↓onG_tt, onG_tt, ↓onG_tf, onG_tf, ↓onG_ft, onG_ft, ↓onG_ff, onG_ff, ↓onG_s, onG_s, ↓onT_t, onT_t, ↓aPick_t, aPick_t, ↓aPick_f, aPick_f, decide_true, decide_false, st_tmp, results1, results2, List.lookup_cons, List.lookup_nil, Nat.reduceBEq, Bool.false_eq_true, ↓reduceIte, BEq.rfl, Nat.reduceLT, Option.getD_some, Option.getD_none, ↓r9_0, r9_0, ↓r9_1, r9_1, ↓r9_2, r9_2, ↓r9_3, r9_3, ↓r9_4, r9_4, ↓r9_5, r9_5, ↓r9_6, r9_6, ↓r9_7, r9_7, ↓r9_8, r9_8, ↓r9_9, r9_9, ↓r9_10, r9_10, ↓r9_11, r9_11, ↓r9_12, r9_12, ↓r9_13, r9_13, ↓r9_14, r9_14, ↓r9_15, r9_15, ↓r9_16, r9_16, ↓r9_17, r9_17, ↓r9_18, r9_18, ↓r9_19, r9_19, ↓r9_20, r9_20, ↓r9_21, r9_21, ↓r9_22, r9_22, ↓r9_23, r9_23, ↓r9_24a, r9_24a, J9_24a_0, J9_24a_1, J9_24a_2, J9_24a_3, J9_24a_4, J9_24a_5, J9_24a_6, J9_24a_7, J9_24a_8, ↓r9_24b, r9_24b, J9_24b_0, J9_24b_1, J9_24b_2, J9_24b_3, J9_24b_4, J9_24b_5, J9_24b_6, J9_24b_7, J9_24b_8, bin_lss, e]
  | succ m ih =>
    intro i n h hi hn up W
    obtain ⟨n, rfl⟩ : ∃ j, n = j + 1 := ⟨n - 1, by omega⟩
    have e : decide (((i : Nat) : Int) < (K : Nat)) = true := decide_eq_true (by omega)
    have wr : IntKind.i64.wrap ((i : Int) + 1) = ((i + 1 : Nat) : Int) := by rw [wrap_i64] <;> omega
    have hcv : aConv tab 3 5 (.int .i64 i) h = some (U8 (UInt8.ofNat i)) := by
      rw [conv_i64_8]; simp [U8]
    have hb : Bs (.vsl 5 [U8 (UInt8.ofNat i)] .exact) [UInt8.ofNat i] := .inr ⟨_, rfl⟩
    obtain ⟨h2, g1, W2, k1⟩ := checkpoint_ok W up (by show 2 ≤ (sqL i).length; rw [seq_len]; decide) (by show i + 1 < 2 ^ 61; omega) (calm_sane (by rw [seq_len]; decide)) hb (by simp) N hN
    rw [(seq_step i (by omega) (seq_log i (by omega))).1] at g1 W2
    obtain ⟨h3, f1, f2, f3⟩ := ih (i + 1) n h2 (by omega) (by omega) (up.keep k1) W2
    refine ⟨h3, fun Kc => ?_, f2, k1.trans f3⟩
    rw [loopK_succ, ← f1 Kc]
    generalize loopK (_ : (List AV → Heap → Option (AV × Heap)) → List AV → Heap → Option (AV × Heap)) n = Lp
    have c0 : decide ((0 : Int) ≠ 0) = false := by decide
    simp -implicitDefEqProofs only [B9_1, ↓runK_seq, runK_seq, ↓runK_cond, runK_cond, ↓runK_block, runK_block, ↓runK_loop, runK_loop, ↓runK_skip, runK_skip, ↓runK_ret, runK_ret, ↓runK_exit, runK_exit, ↓seqE_n, seqE_n, ↓seqE_e, seqE_e, ↓seqE_r, seqE_r, ↓blkE_n, blkE_n, ↓blkE_e, blkE_e, ↓blkE_r, blkE_r, ↓retK_n, retK_n, ↓retK_r, retK_r, ↓aCall_fn, aCall_fn, ↓bnd_s, bnd_s, ↓bnd2_s, bnd2_s, ↓onB_t, onB_t, ↓onB_f, onB_f, ↓onG_tt, onG_tt, ↓onG_tf, onG_tf, ↓onG_ft, onG_ft, ↓onG_ff, onG_ff, ↓onG_s, onG_s, ↓onT_t, onT_t, ↓aPick_t, aPick_t, ↓aPick_f, aPick_f, decide_true, decide_false, st_tmp, results1, results2, List.lookup_cons, List.lookup_nil, Nat.reduceBEq, Bool.false_eq_true, ↓reduceIte, BEq.rfl, Nat.reduceLT, Option.getD_some, Option.getD_none, ↓r9_0, r9_0, ↓r9_1, r9_1, ↓r9_2, r9_2, ↓r9_3, r9_3, ↓r9_4, r9_4, ↓r9_5, r9_5, ↓r9_6, r9_6, ↓r9_7, r9_7, ↓r9_8, r9_8, ↓r9_9, r9_9, ↓r9_10, r9_10, ↓r9_11, r9_11, ↓r9_12, r9_12, ↓r9_13, r9_13, ↓r9_14, r9_14, ↓r9_15, r9_15, ↓r9_16, r9_16, ↓r9_17, r9_17, ↓r9_18, r9_18, ↓r9_19, r9_19, ↓r9_20, r9_20, ↓r9_21, r9_21, ↓r9_22, r9_22, ↓r9_23, r9_23, ↓r9_24a, r9_24a, J9_24a_0, J9_24a_1, J9_24a_2, J9_24a_3, J9_24a_4, J9_24a_5, J9_24a_6, J9_24a_7, J9_24a_8, ↓r9_24b, r9_24b, J9_24b_0, J9_24b_1, J9_24b_2, J9_24b_3, J9_24b_4, J9_24b_5, J9_24b_6, J9_24b_7, J9_24b_8, bin_lss, e, hcv, lit22_1 (U8 (UInt8.ofNat i)) rfl, g1, neq27, c0, bin_add, wr]
theorem rw_one' {x : AV} {a : List UInt8} (hx : Bs x a) : Rw (.vsl 22 [x] .exact) [a] := .inr ⟨_, _, rfl, .cons hx .nil⟩
theorem rem5_u8 (a : Nat) : aBinC tab .rem 5 (.int .u8 a) (.int .u8 5) true = some (.int .u8 ((a % 5 : Nat) : Int)) := by
  simp [aBinC, aBin, Go.binOp, Op.intDiv, ofPure, pure, wrap_u8]
  rw [Int.tmod_eq_emod_of_nonneg (by omega)]
  try omega
theorem rem64_u8 (a : Nat) : aBinC tab .rem 5 (.int .u8 a) (.int .u8 64) true = some (.int .u8 ((a % 64 : Nat) : Int)) := by
  simp [aBinC, aBin, Go.binOp, Op.intDiv, ofPure, pure, wrap_u8]
  rw [Int.tmod_eq_emod_of_nonneg (by omega)]
  try omega
theorem u8_xor (a b : UInt8) : aBinC tab .xor 5 (U8 a) (U8 b) false = some (U8 (a ^^^ b)) := by
  have e : Go.binOp .xor 5 (.int .u8 a.toNat) (.int .u8 b.toNat) = pure (.int .u8 (IntKind.u8.wrap ((BitVec.ofInt 8 (a.toNat : Int) ^^^ BitVec.ofInt 8 (b.toNat : Int)).toNat : Int))) := rfl
  have e2 : ∀ x : UInt8, BitVec.ofInt 8 (x.toNat : Int) = x.toBitVec := by
    intro x
    apply BitVec.eq_of_toNat_eq
    have := x.toNat_lt
    simp
  have e3 : (a.toBitVec ^^^ b.toBitVec).toNat = (a ^^^ b).toNat := rfl
  simp only [aBinC, aBin, U8, e, e2, e3, wrap_u8]
  have := (a ^^^ b).toNat_lt
  simp only [ofPure, pure]
  congr 2
  omega
theorem supers_law (h : Heap) (n at' turn : Nat) (hn : n < 256) (ht : turn < 256) (k : Nat) (hk : 10600 < k) : ∃ h', exFn C0 E0 (k + 1) false 9 [.int .u8 n, .int .u8 at', .int .u8 turn] h = some (.bool true, h') := by
  obtain ⟨k, rfl⟩ : ∃ j, k = j + 4 := ⟨k - 4, by omega⟩
  have n0 : ([.int .u8 n, .int .u8 at', .int .u8 turn] ++ List.replicate (109 - [AV.int .u8 n, .int .u8 at', .int .u8 turn].length) AV.undef) = st 109 [(0, .int .u8 n), (1, .int .u8 at'), (2, .int .u8 turn)] := rfl
  by_cases q0 : turn = 0
  · obtain ⟨h1, a1, k1⟩ := answers4_ok h (k + 3) (by omega)
    have e0 : decide ((turn : Int) = 0) = true := decide_eq_true (by omega)
    refine ⟨h1, exFn_of e9 ?_⟩
    rw [fnK, n0, s9]
    simp -implicitDefEqProofs only [↓runK_seq, runK_seq, ↓runK_cond, runK_cond, ↓runK_block, runK_block, ↓runK_loop, runK_loop, ↓runK_skip, runK_skip, ↓runK_ret, runK_ret, ↓runK_exit, runK_exit, ↓seqE_n, seqE_n, ↓seqE_e, seqE_e, ↓seqE_r, seqE_r, ↓blkE_n, blkE_n, ↓blkE_e, blkE_e, ↓blkE_r, blkE_r, ↓retK_n, retK_n, ↓retK_r, retK_r, ↓aCall_fn, aCall_fn, ↓bnd_s, bnd_s, ↓bnd2_s, bnd2_s, ↓onB_t, onB_t, ↓onB_f, onB_f, ↓onG_tt, onG_tt, ↓onG_tf, onG_tf, ↓onG_ft, onG_ft, ↓onG_ff, onG_ff, ↓onG_s, onG_s, ↓onT_t, onT_t, ↓aPick_t, aPick_t, ↓aPick_f, aPick_f, decide_true, decide_false, st_tmp, results1, results2, List.lookup_cons, List.lookup_nil, Nat.reduceBEq, Bool.false_eq_true, ↓reduceIte, BEq.rfl, Nat.reduceLT, Option.getD_some, Option.getD_none, ↓r9_0, r9_0, ↓r9_1, r9_1, ↓r9_2, r9_2, ↓r9_3, r9_3, ↓r9_4, r9_4, ↓r9_5, r9_5, ↓r9_6, r9_6, ↓r9_7, r9_7, ↓r9_8, r9_8, ↓r9_9, r9_9, ↓r9_10, r9_10, ↓r9_11, r9_11, ↓r9_12, r9_12, ↓r9_13, r9_13, ↓r9_14, r9_14, ↓r9_15, r9_15, ↓r9_16, r9_16, ↓r9_17, r9_17, ↓r9_18, r9_18, ↓r9_19, r9_19, ↓r9_20, r9_20, ↓r9_21, r9_21, ↓r9_22, r9_22, ↓r9_23, r9_23, ↓r9_24a, r9_24a, J9_24a_0, J9_24a_1, J9_24a_2, J9_24a_3, J9_24a_4, J9_24a_5, J9_24a_6, J9_24a_7, J9_24a_8, ↓r9_24b, r9_24b, J9_24b_0, J9_24b_1, J9_24b_2, J9_24b_3, J9_24b_4, J9_24b_5, J9_24b_6, J9_24b_7, J9_24b_8, bin_eql, e0, a1]
  have e0 : decide ((turn : Int) = 0) = false := decide_eq_false (by omega)
  have htb : AV.int .u8 turn = U8 (UInt8.ofNat turn) := by
    unfold U8; congr 1; rw [UInt8.toNat_ofNat']; omega
  have ht0 : UInt8.ofNat turn ≠ 0 := by
    intro e
    have := congrArg UInt8.toNat e
    rw [UInt8.toNat_ofNat'] at this
    have z : (0 : UInt8).toNat = 0 := rfl
    omega
  have up := Up.fresh h
  obtain ⟨p, r, h1, n1, D1, k1⟩ := new_ok 80 h false (k + 3)
  have up1 := up.keep k1
  obtain ⟨o1, -⟩ := open_blank 80 (by omega) (by omega)
  have dn : Dk.new 80 = Calm (List.replicate 80 zs) := rfl
  rw [dn] at D1
  obtain ⟨h2, l, x, g1, k2, -, a2, -⟩ := open_ok D1 up1 (by simp [Calm]) (calm_sane (by simp)) (k + 3) (by omega)
  rw [o1] at g1 a2
  obtain ⟨q, rfl, hq1, hq2, W1, -⟩ := a2 rfl
  have up2 := up1.keep k2
  have W1' : Lsk (From h.length) h2 q p r ⟨Calm (sqL 0), 0 + 1, sqP 0, false⟩ := W1
  have cv := conv8_64' (n % 5) (by omega)
  have wk : IntKind.i64.wrap (((n % 5 : Nat) : Int) + 1) = ((n % 5 + 1 : Nat) : Int) := by rw [wrap_i64] <;> omega
  generalize hkk : n % 5 = j at *
  have hj : j < 5 := by omega
  obtain ⟨h3, f1, W3, k3⟩ := supers_loop (.int .u8 at') (.int .u8 turn) (k + 3) (by omega) (j + 1) (by omega) (j + 1) 0 (k + 4) h2 (by omega) (by omega) up2 W1'
  rw [show ((0 : Nat) : Int) = 0 from rfl] at f1
  have up3 := up2.keep k3
  have gs := gen_ok W3.var (k + 3)
  have rm := rem2_i64 (j + 2) (by omega) true
  have hm2 : (j + 2) % 2 < 2 := Nat.mod_lt _ (by decide)
  have hl80 : (Calm (sqL (j + 1))).lasts.length = 80 := seq_len (j + 1)
  have rt := read_true W3.dsk rfl ((j + 2) % 2) (by rw [hl80]; omega) k
  have hslot : (sqL (j + 1))[(j + 2) % 2]'(by rw [seq_len]; omega) = pad (superOf (j + 2)) := by
    have : (sqL (j + 1))[(j + 2) % 2]? = some (pad (superOf (j + 2))) := by
      rw [sqL]; unfold pointed; rw [List.getElem?_set_self (by rw [laid_length, wiped_length, seq_len]; omega)]
    rw [List.getElem?_eq_getElem (by rw [seq_len]; omega)] at this
    exact Option.some.inj this
  simp only [show (Calm (sqL (j + 1))).lasts = sqL (j + 1) from rfl, hslot] at rt
  have hpl : (pad (superOf (j + 2))).length = 64 := pad_length _ (by rw [superOf_length]; omega)
  have r64 := rem64_u8 at'
  have ha64 : at' % 64 < 64 := Nat.mod_lt _ (by decide)
  generalize at' % 64 = a at *
  have spo := super_spoilt (j + 2) a ha64 (UInt8.ofNat turn) ht0 ((j + 2) % 2)
  have hat : a < (pad (superOf (j + 2))).length := by omega
  rw [List.getElem?_eq_getElem hat, Option.getD_some] at spo
  have k4 : Keep (From h3.length) h3 (h3 ++ [.row 5 ((pad (superOf (j + 2))).map U8)]) := Keep.app h3 _ (Up.fresh h3)
  have hrow : (h3 ++ [Obj.row 5 ((pad (superOf (j + 2))).map U8)])[h3.length]? = some (.row 5 ((pad (superOf (j + 2))).map U8)) := by simp
  have W4 := W3.fresh k4
  have hlen4 : (h3 ++ [Obj.row 5 ((pad (superOf (j + 2))).map U8)]).length = h3.length + 1 := by simp
  have hll : (h3 ++ [Obj.row 5 ((pad (superOf (j + 2))).map U8)]).length = h3.length + 1 := by simp
  generalize h3 ++ [Obj.row 5 ((pad (superOf (j + 2))).map U8)] = H at *
  generalize pad (superOf (j + 2)) = c at *
  have lnb : aLen tab 22 (.msl h3.length [] 5 0 64) = some (.int .i64 64) := by simp [aLen]
  have ix : aIndexAddr tab 22 (.msl h3.length [] 5 0 64) (.int .u8 (a : Int)) = some (.ref h3.length [a] 5) := by simp [aIndexAddr]; omega
  have ld : aLoad tab 5 (.ref h3.length [a] 5) H = some (U8 c[a]) := by simp [aLoad, hrow, objGet, getP, hat]
  have xr := u8_xor c[a] (UInt8.ofNat turn)
  rw [← htb] at xr
  generalize c[a] ^^^ UInt8.ofNat turn = y at *
  have sr : aStore tab 5 (.ref h3.length [a] 5) (U8 y) H = some (H.set h3.length (.row 5 ((c.set a y).map U8))) := by
    have hf : fits tab 5 (U8 y) = true := rfl
    simp [aStore, hf, hrow, objSet, setP, hat, List.map_set]
  have hcl : (c.set a y).length = 64 := by rw [List.length_set]; exact hpl
  -- the row is no object of the disk's
  have q3 := W3.lt
  have W5 : Lsk (fun i => From h.length i ∧ i ≠ h3.length) H q p r ⟨Calm (sqL (j + 1)), (j + 1) + 1, sqP (j + 1), false⟩ := by
    refine ⟨⟨W4.hq, by omega⟩, W4.var, ?_⟩
    have := (W3.dsk.cap).fresh k4
    exact this.mono fun i hi => ⟨⟨hi.1.1, by have := hi.2; omega⟩, hi.1.2⟩
  have k5 : Keep (fun i => i = h3.length) H (H.set h3.length (.row 5 ((c.set a y).map U8))) := Keep.set H _ rfl
  have W6 : Dsk (fun i => (From h.length i ∧ i ≠ h3.length) ∧ i ≠ q) (H.set h3.length (.row 5 ((c.set a y).map U8))) p r (Calm (sqL (j + 1))) := W5.dsk.keep k5 fun i _ h1 h2 => h1.1.2 h2
  have hrow2 : (H.set h3.length (.row 5 ((c.set a y).map U8)))[h3.length]? = some (.row 5 ((c.set a y).map U8)) := by simp [hll]
  have hlenH : (H.set h3.length (.row 5 ((c.set a y).map U8))).length = h3.length + 1 := by simp [hll]
  generalize H.set h3.length (.row 5 ((c.set a y).map U8)) = H2 at *
  generalize hY : c.set a y = Y at *
  have by2 : By (fun i => i = h3.length) H2 (.msl h3.length [] 5 0 64) Y := .inr ⟨h3.length, [], 0, Y.map U8, by rw [hcl], rfl, by simp [hrow2, rowGet], by simp, by simp [List.take_of_length_le]⟩
  have hk3 : h.length ≤ h3.length := by have := (k1.trans (k2.trans k3)).1; exact this
  have up6 : Up (fun i => (From h.length i ∧ i ≠ h3.length) ∧ i ≠ q) H2 := fun i hi => ⟨⟨by unfold From; omega, by omega⟩, by omega⟩
  obtain ⟨h7, w7, D7, k7⟩ := write_ok W6 up6 (((j + 2) % 2 : Nat) : Int) by2 (fun i _ h1 h2 => h2.1.2 h1) (by simp [Calm]) (by simp [Calm]) (k + 1)
  have cw := calm_write (sqL (j + 1)) [] ((j + 2) % 2) Y (by rw [seq_len]; omega) (by omega)
  rw [show Calm (sqL (j + 1)) = ⟨sqL (j + 1), [], -1, false⟩ from rfl, cw] at w7 D7
  obtain ⟨h8, w8, D8, k8⟩ := flush_ok D7 (up6.keep k7) (by simp) (by simp) false (k + 3) (by simp)
  rw [calm_flush] at w8 D8
  have hpad : pad Y = Y := by unfold pad; rw [hcl]; simp
  have hland : land (sqL (j + 1)) ([] ++ [((j + 2) % 2, pad Y)]) = (sqL (j + 1)).set ((j + 2) % 2) Y := by rw [hpad]; rfl
  simp only [hland] at w8 D8
  have hcel : ∀ x ∈ sqL (j + 1), x.length = 64 := (seq_log (j + 1) (by omega)).cells
  have LB : Log ((sqL (j + 1)).set ((j + 2) % 2) Y) (j + 1) (sqE j) (sqP j) :=
    Log.back (seq_log j (by omega)) (b := [UInt8.ofNat j]) (by rw [nOf_one, seq_len]; decide) hcl (by show superGen Y ((j + 2) % 2) ≤ _; rw [spo]; omega) hcel
  have op := LB.open
  have lo := LB.lo
  have hi := LB.hi
  generalize (sqL (j + 1)).set ((j + 2) % 2) Y = lB at *
  have up8 := (up6.keep k7).keep k8
  obtain ⟨h9, l', z, g9, k9, D9, a9, -⟩ := open_ok D8 up8 (by show 4 ≤ lB.length; omega) (calm_sane hi) (k + 3) (by omega)
  rw [op] at g9 a9
  obtain ⟨q', rfl, -, -, W9, A9⟩ := a9 rfl
  obtain ⟨h10, a10, k10⟩ := answers4_ok h9 (k + 3) (by omega)
  have W10 := W9.fresh k10
  have gs2 := gen_ok W10.var (k + 3)
  have z64 : decide ((64 : Int) ≠ 64) = false := by decide
  have z0 : decide ((0 : Int) = 0) = true := by decide
  have n00 : decide ((0 : Int) ≠ 0) = false := by decide
  have wj : IntKind.i64.wrap (((j + 1 : Nat) : Int) - 2) = (j : Int) - 1 := by rw [wrap_i64] <;> omega
  have wj1 : IntKind.i64.wrap (((j + 1 : Nat) : Int) + 1) = ((j + 2 : Nat) : Int) := by rw [wrap_i64] <;> omega
  have eg : decide (((j + 2 : Nat) : Int) = ((j + 2 : Nat) : Int)) = true := decide_eq_true rfl
  have eg2 : decide (((j + 1 : Nat) : Int) = ((j + 1 : Nat) : Int)) = true := decide_eq_true rfl
  have cvb := fun h => conv_i64_8 ((j : Int) - 1) h
  have hf8 : fits tab 5 (.int .u8 (((j : Int) - 1) % 256)) = true := rfl
  have rsm : ∀ b ∈ sqE j, b.length < 2 := by
    intro b hb
    cases j with
    | zero => simp [sqE] at hb
    | succ j => simp [sqE] at hb; subst hb; simp
  have rsl : (sqE j).length ≤ 1 := by cases j <;> simp [sqE]
  by_cases q1 : j = 0
  · subst q1
    have e1 : decide (((0 + 1 : Nat) : Int) = 1) = true := by decide
    have rw1 := rows_ok (x := z) (y := .nils) (l := sqE 0) (m := []) A9.rw (.inl ⟨rfl, rfl⟩) (by omega) 2 rsm (by decide) false h10 (k + 4) (by omega)
    have hE : sqE 0 = [] := rfl
    have hf22 : fits tab 22 (AV.vsl 5 [AV.int .u8 ((((0 : Nat) : Int) - 1) % 256)] .exact) = true := rfl
    rw [decide_eq_true hE] at rw1
    refine ⟨h10, exFn_of e9 ?_⟩
    rw [fnK, n0, s9]
    simp -implicitDefEqProofs only [↓runK_seq, runK_seq, ↓runK_cond, runK_cond, ↓runK_block, runK_block, ↓runK_loop, runK_loop, ↓runK_skip, runK_skip, ↓runK_ret, runK_ret, ↓runK_exit, runK_exit, ↓seqE_n, seqE_n, ↓seqE_e, seqE_e, ↓seqE_r, seqE_r, ↓blkE_n, blkE_n, ↓blkE_e, blkE_e, ↓blkE_r, blkE_r, ↓retK_n, retK_n, ↓retK_r, retK_r, ↓aCall_fn, aCall_fn, ↓bnd_s, bnd_s, ↓bnd2_s, bnd2_s, ↓onB_t, onB_t, ↓onB_f, onB_f, ↓onG_tt, onG_tt, ↓onG_tf, onG_tf, ↓onG_ft, onG_ft, ↓onG_ff, onG_ff, ↓onG_s, onG_s, ↓onT_t, onT_t, ↓aPick_t, aPick_t, ↓aPick_f, aPick_f, decide_true, decide_false, st_tmp, results1, results2, List.lookup_cons, List.lookup_nil, Nat.reduceBEq, Bool.false_eq_true, ↓reduceIte, BEq.rfl, Nat.reduceLT, Option.getD_some, Option.getD_none, ↓r9_0, r9_0, ↓r9_1, r9_1, ↓r9_2, r9_2, ↓r9_3, r9_3, ↓r9_4, r9_4, ↓r9_5, r9_5, ↓r9_6, r9_6, ↓r9_7, r9_7, ↓r9_8, r9_8, ↓r9_9, r9_9, ↓r9_10, r9_10, ↓r9_11, r9_11, ↓r9_12, r9_12, ↓r9_13, r9_13, ↓r9_14, r9_14, ↓r9_15, r9_15, ↓r9_16, r9_16, ↓r9_17, r9_17, ↓r9_18, r9_18, ↓r9_19, r9_19, ↓r9_20, r9_20, ↓r9_21, r9_21, ↓r9_22, r9_22, ↓r9_23, r9_23, ↓r9_24a, r9_24a, J9_24a_0, J9_24a_1, J9_24a_2, J9_24a_3, J9_24a_4, J9_24a_5, J9_24a_6, J9_24a_7, J9_24a_8, ↓r9_24b, r9_24b, J9_24b_0, J9_24b_1, J9_24b_2, J9_24b_3, J9_24b_4, J9_24b_5, J9_24b_6, J9_24b_7, J9_24b_8, bin_eql, e0, n1, g1, ext30, ext31, ext32, neq27, n00, rem5_u8, hkk, cv, bin_add, wk]
    rw [f1]
    simp -implicitDefEqProofs only [↓runK_seq, runK_seq, ↓runK_cond, runK_cond, ↓runK_block, runK_block, ↓runK_loop, runK_loop, ↓runK_skip, runK_skip, ↓runK_ret, runK_ret, ↓runK_exit, runK_exit, ↓seqE_n, seqE_n, ↓seqE_e, seqE_e, ↓seqE_r, seqE_r, ↓blkE_n, blkE_n, ↓blkE_e, blkE_e, ↓blkE_r, blkE_r, ↓retK_n, retK_n, ↓retK_r, retK_r, ↓aCall_fn, aCall_fn, ↓bnd_s, bnd_s, ↓bnd2_s, bnd2_s, ↓onB_t, onB_t, ↓onB_f, onB_f, ↓onG_tt, onG_tt, ↓onG_tf, onG_tf, ↓onG_ft, onG_ft, ↓onG_ff, onG_ff, ↓onG_s, onG_s, ↓onT_t, onT_t, ↓aPick_t, aPick_t, ↓aPick_f, aPick_f, decide_true, decide_false, st_tmp, results1, results2, List.lookup_cons, List.lookup_nil, Nat.reduceBEq, Bool.false_eq_true, ↓reduceIte, BEq.rfl, Nat.reduceLT, Option.getD_some, Option.getD_none, ↓r9_0, r9_0, ↓r9_1, r9_1, ↓r9_2, r9_2, ↓r9_3, r9_3, ↓r9_4, r9_4, ↓r9_5, r9_5, ↓r9_6, r9_6, ↓r9_7, r9_7, ↓r9_8, r9_8, ↓r9_9, r9_9, ↓r9_10, r9_10, ↓r9_11, r9_11, ↓r9_12, r9_12, ↓r9_13, r9_13, ↓r9_14, r9_14, ↓r9_15, r9_15, ↓r9_16, r9_16, ↓r9_17, r9_17, ↓r9_18, r9_18, ↓r9_19, r9_19, ↓r9_20, r9_20, ↓r9_21, r9_21, ↓r9_22, r9_22, ↓r9_23, r9_23, ↓r9_24a, r9_24a, J9_24a_0, J9_24a_1, J9_24a_2, J9_24a_3, J9_24a_4, J9_24a_5, J9_24a_6, J9_24a_7, J9_24a_8, ↓r9_24b, r9_24b, J9_24b_0, J9_24b_1, J9_24b_2, J9_24b_3, J9_24b_4, J9_24b_5, J9_24b_6, J9_24b_7, J9_24b_8, gs, rm, rt, ext0, ext1, lnb, bin_neq, z64, r64, ix, ld, xr, sr, w7, w8, g9, ext30, ext31, ext32, bin_sub, wj, cvb, lit22_1 _ hf8, lit30 _ hf22, bin_eql, e1, a10, z0, bin_add, wj1, eg, gs2, eg2, rw1]
  · obtain ⟨i, rfl⟩ : ∃ i, j = i + 1 := ⟨j - 1, by omega⟩
    have e1 : decide (((i + 1 + 1 : Nat) : Int) = 1) = false := decide_eq_false (by omega)
    have hu8 : AV.int .u8 ((((i + 1 : Nat) : Int) - 1) % 256) = U8 (UInt8.ofNat i) := by
      unfold U8
      have : ((((i + 1 : Nat) : Int) - 1) % 256) = ((UInt8.ofNat i).toNat : Int) := by rw [UInt8.toNat_ofNat']; omega
      rw [this]
    have hb2 : Bs (.vsl 5 [U8 (UInt8.ofNat i)] .exact) [UInt8.ofNat i] := .inr ⟨_, rfl⟩
    have rw1 := rows_ok (l := sqE (i + 1)) A9.rw (rw_one' hb2) (by omega) 2 rsm (by decide) false h10 (k + 4) (by omega)
    have hE : sqE (i + 1) = [[UInt8.ofNat i]] := rfl
    rw [decide_eq_true hE] at rw1
    rw [hu8] at cvb
    refine ⟨h10, exFn_of e9 ?_⟩
    rw [fnK, n0, s9]
    simp -implicitDefEqProofs only [↓runK_seq, runK_seq, ↓runK_cond, runK_cond, ↓runK_block, runK_block, ↓runK_loop, runK_loop, ↓runK_skip, runK_skip, ↓runK_ret, runK_ret, ↓runK_exit, runK_exit, ↓seqE_n, seqE_n, ↓seqE_e, seqE_e, ↓seqE_r, seqE_r, ↓blkE_n, blkE_n, ↓blkE_e, blkE_e, ↓blkE_r, blkE_r, ↓retK_n, retK_n, ↓retK_r, retK_r, ↓aCall_fn, aCall_fn, ↓bnd_s, bnd_s, ↓bnd2_s, bnd2_s, ↓onB_t, onB_t, ↓onB_f, onB_f, ↓onG_tt, onG_tt, ↓onG_tf, onG_tf, ↓onG_ft, onG_ft, ↓onG_ff, onG_ff, ↓onG_s, onG_s, ↓onT_t, onT_t, ↓aPick_t, aPick_t, ↓aPick_f, aPick_f, decide_true, decide_false, st_tmp, results1, results2, List.lookup_cons, List.lookup_nil, Nat.reduceBEq, Bool.false_eq_true, ↓reduceIte, BEq.rfl, Nat.reduceLT, Option.getD_some, Option.getD_none, ↓r9_0, r9_0, ↓r9_1, r9_1, ↓r9_2, r9_2, ↓r9_3, r9_3, ↓r9_4, r9_4, ↓r9_5, r9_5, ↓r9_6, r9_6, ↓r9_7, r9_7, ↓r9_8, r9_8, ↓r9_9, r9_9, ↓r9_10, r9_10, ↓r9_11, r9_11, ↓r9_12, r9_12, ↓r9_13, r9_13, ↓r9_14, r9_14, ↓r9_15, r9_15, ↓r9_16, r9_16, ↓r9_17, r9_17, ↓r9_18, r9_18, ↓r9_19, r9_19, ↓r9_20, r9_20, ↓r9_21, r9_21, ↓r9_22, r9_22, ↓r9_23, r9_23, ↓r9_24a, r9_24a, J9_24a_0, J9_24a_1, J9_24a_2, J9_24a_3, J9_24a_4, J9_24a_5, J9_24a_6, J9_24a_7, J9_24a_8, ↓r9_24b, r9_24b, J9_24b_0, J9_24b_1, J9_24b_2, J9_24b_3, J9_24b_4, J9_24b_5, J9_24b_6, J9_24b_7, J9_24b_8, bin_eql, e0, n1, g1, ext30, ext31, ext32, neq27, n00, rem5_u8, hkk, cv, bin_add, wk]
    rw [f1]
    simp -implicitDefEqProofs only [↓runK_seq, runK_seq, ↓runK_cond, runK_cond, ↓runK_block, runK_block, ↓runK_loop, runK_loop, ↓runK_skip, runK_skip, ↓runK_ret, runK_ret, ↓runK_exit, runK_exit, ↓seqE_n, seqE_n, ↓seqE_e, seqE_e, ↓seqE_r, seqE_r, ↓blkE_n, blkE_n, ↓blkE_e, blkE_e, ↓blkE_r, blkE_r, ↓retK_n, retK_n, ↓retK_r, retK_r, ↓aCall_fn, aCall_fn, ↓bnd_s, bnd_s, ↓bnd2_s, bnd2_s, ↓onB_t, onB_t, ↓onB_f, onB_f, ↓onG_tt, onG_tt, ↓onG_tf, onG_tf, ↓onG_ft, onG_ft, ↓onG_ff, onG_ff, ↓onG_s, onG_s, ↓onT_t, onT_t, ↓aPick_t, aPick_t, ↓aPick_f, aPick_f, decide_true, decide_false, st_tmp, results1, results2, List.lookup_cons, List.lookup_nil, Nat.reduceBEq, Bool.false_eq_true, ↓reduceIte, BEq.rfl, Nat.reduceLT, Option.getD_some, Option.getD_none, ↓r9_0, r9_0, ↓r9_1, r9_1, ↓r9_2, r9_2, ↓r9_3, r9_3, ↓r9_4, r9_4, ↓r9_5, r9_5, ↓r9_6, r9_6, ↓r9_7, r9_7, ↓r9_8, r9_8, ↓r9_9, r9_9, ↓r9_10, r9_10, ↓r9_11, r9_11, ↓r9_12, r9_12, ↓r9_13, r9_13, ↓r9_14, r9_14, ↓r9_15, r9_15, ↓r9_16, r9_16, ↓r9_17, r9_17, ↓r9_18, r9_18, ↓r9_19, r9_19, ↓r9_20, r9_20, ↓r9_21, r9_21, ↓r9_22, r9_22, ↓r9_23, r9_23, ↓r9_24a, r9_24a, J9_24a_0, J9_24a_1, J9_24a_2, J9_24a_3, J9_24a_4, J9_24a_5, J9_24a_6, J9_24a_7, J9_24a_8, ↓r9_24b, r9_24b, J9_24b_0, J9_24b_1, J9_24b_2, J9_24b_3, J9_24b_4, J9_24b_5, J9_24b_6, J9_24b_7, J9_24b_8, gs, rm, rt, ext0, ext1, lnb, bin_neq, z64, r64, ix, ld, xr, sr, w7, w8, g9, ext30, ext31, ext32, bin_sub, wj, cvb, lit22_1 (U8 (UInt8.ofNat i)) rfl, lit30 _ hb2.fits, bin_eql, e1, a10, z0, bin_add, wj1, eg, gs2, eg2, rw1]
end Go.Ax
