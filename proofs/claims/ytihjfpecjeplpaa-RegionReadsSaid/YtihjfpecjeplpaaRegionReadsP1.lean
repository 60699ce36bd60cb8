/- What the functions that RegionReads reaches compute (part 1); each for the inputs that its theorem names. -/
import Derived.Test.YtihjfpecjeplpaaK2
import Derived.OpenShut
import Derived.Laws.Strings
set_option linter.unusedSimpArgs false
set_option linter.unusedVariables false

/- What the regions of some functions hand on. Printed by a program of mine (gen.py). -/
set_option linter.unusedVariables false
namespace Go.Ax
open Go Go.Proofs
/-! ### interregnum/sum.Of -/
noncomputable def O71 (i : Nat) : Array Oper := opsOf i (bodyOf Try.f71)
noncomputable def B71_1 : Code := (.seq (.region 7 (O71 7) false) (.seq (.cond (Go.Operand.tmp 18) .skip (.exit 2)) (.seq (.block 3 (.seq (.region 8 (O71 8) false) (.region 9 (O71 9) false))) (.region 10 (O71 10) false))))
noncomputable def B71_2 : Code := (.seq (.region 3 (O71 3) false) (.seq (.cond (Go.Operand.tmp 10) .skip (.exit 0)) (.seq (.block 1 (.seq (.region 4 (O71 4) false) (.seq (.region 5 (O71 5) false) (.seq (.region 6 (O71 6) false) (.block 2 (.loop B71_1)))))) (.region 11 (O71 11) false))))
theorem s71 : bodyOf Try.f71 = (.seq (.region 0 (O71 0) false) (.seq (.region 1 (O71 1) false) (.seq (.seq (.region 2 (O71 2) false) (.block 0 (.loop B71_2))) (.seq (.region 12 (O71 12) false) .ret)))) := by kernel_rfl
theorem e71 : E0 71 = some ⟨30, [2], bodyOf Try.f71⟩ := by kernel_rfl
theorem r71_0 {β : Type} (call : CallF) (md : Bool) (n : Nat) (k : Ex → List AV → Heap → Option β) (x0 : AV) (h : Heap) :
    runK C0 call md 71 n (.region 0 (O71 0) false) k (st 30 [(0, x0)]) h =
    k .normal (st 30 [(0, x0)]) h
  := by kernel_rfl
theorem r71_1 {β : Type} (call : CallF) (md : Bool) (n : Nat) (k : Ex → List AV → Heap → Option β) (x0 : AV) (h : Heap) :
    runK C0 call md 71 n (.region 1 (O71 1) false) k (st 30 [(0, x0)]) h =
    k .normal (st 30 [(0, x0), (3, (.int .u32 4294967295))]) h
  := by kernel_rfl
theorem r71_2 {β : Type} (call : CallF) (md : Bool) (n : Nat) (k : Ex → List AV → Heap → Option β) (x0 x3 : AV) (h : Heap) :
    runK C0 call md 71 n (.region 2 (O71 2) false) k (st 30 [(0, x0), (3, x3)]) h =
    bnd (aLen tab 22 x0) fun v1 =>
    k .normal (st 30 [(3, x3), (7, x0), (8, v1), (9, (.int .i64 0))]) h
  := by kernel_rfl
theorem r71_3 {β : Type} (call : CallF) (md : Bool) (n : Nat) (k : Ex → List AV → Heap → Option β) (x3 x7 x8 x9 : AV) (h : Heap) :
    runK C0 call md 71 n (.region 3 (O71 3) false) k (st 30 [(3, x3), (7, x7), (8, x8), (9, x9)]) h =
    bnd (aBinC tab .lss 3 x9 x8 false) fun v1 =>
    k .normal (st 30 [(3, x3), (7, x7), (8, x8), (9, x9), (10, v1)]) h
  := by kernel_rfl
theorem r71_4 {β : Type} (call : CallF) (md : Bool) (n : Nat) (k : Ex → List AV → Heap → Option β) (x3 x7 x8 x9 x10 : AV) (h : Heap) :
    runK C0 call md 71 n (.region 4 (O71 4) false) k (st 30 [(3, x3), (7, x7), (8, x8), (9, x9), (10, x10)]) h =
    bnd (aIndexAddr tab 22 x7 x9) fun v1 =>
    bnd (aLoad tab 5 v1 h) fun v2 =>
    k .normal (st 30 [(3, x3), (5, v2), (7, x7), (8, x8), (9, x9)]) h
  := by kernel_rfl
theorem r71_5 {β : Type} (call : CallF) (md : Bool) (n : Nat) (k : Ex → List AV → Heap → Option β) (x3 x5 x7 x8 x9 : AV) (h : Heap) :
    runK C0 call md 71 n (.region 5 (O71 5) false) k (st 30 [(3, x3), (5, x5), (7, x7), (8, x8), (9, x9)]) h =
    bnd (aConv tab 5 105 x5 h) fun v1 =>
    bnd (aBinC tab .xor 105 x3 v1 false) fun v2 =>
    k .normal (st 30 [(3, v2), (7, x7), (8, x8), (9, x9)]) h
  := by kernel_rfl
theorem r71_6 {β : Type} (call : CallF) (md : Bool) (n : Nat) (k : Ex → List AV → Heap → Option β) (x3 x7 x8 x9 : AV) (h : Heap) :
    runK C0 call md 71 n (.region 6 (O71 6) false) k (st 30 [(3, x3), (7, x7), (8, x8), (9, x9)]) h =
    k .normal (st 30 [(3, x3), (7, x7), (8, x8), (9, x9), (17, (.int .i64 0))]) h
  := by kernel_rfl
theorem r71_7 {β : Type} (call : CallF) (md : Bool) (n : Nat) (k : Ex → List AV → Heap → Option β) (x3 x7 x8 x9 x17 : AV) (h : Heap) :
    runK C0 call md 71 n (.region 7 (O71 7) false) k (st 30 [(3, x3), (7, x7), (8, x8), (9, x9), (17, x17)]) h =
    bnd (aBinC tab .lss 3 x17 (.int .i64 8) true) fun v1 =>
    k .normal (st 30 [(3, x3), (7, x7), (8, x8), (9, x9), (17, x17), (18, v1)]) h
  := by kernel_rfl
theorem r71_8 {β : Type} (call : CallF) (md : Bool) (n : Nat) (k : Ex → List AV → Heap → Option β) (x3 x7 x8 x9 x17 x18 : AV) (h : Heap) :
    runK C0 call md 71 n (.region 8 (O71 8) false) k (st 30 [(3, x3), (7, x7), (8, x8), (9, x9), (17, x17), (18, x18)]) h =
    bnd (aBinC tab .and 105 x3 (.int .u32 1) true) fun v1 =>
    k .normal (st 30 [(3, x3), (6, v1), (7, x7), (8, x8), (9, x9), (17, x17)]) h
  := by kernel_rfl
theorem r71_9 {β : Type} (call : CallF) (md : Bool) (n : Nat) (k : Ex → List AV → Heap → Option β) (x3 x6 x7 x8 x9 x17 : AV) (h : Heap) :
    runK C0 call md 71 n (.region 9 (O71 9) false) k (st 30 [(3, x3), (6, x6), (7, x7), (8, x8), (9, x9), (17, x17)]) h =
    bnd (aBinC tab .shr 105 x3 (.int .u64 1) true) fun v1 =>
    bnd (aBinC tab .mul 105 (.int .u32 2197175160) x6 true) fun v2 =>
    bnd (aBinC tab .xor 105 v1 v2 false) fun v3 =>
    k .normal (st 30 [(3, v3), (7, x7), (8, x8), (9, x9), (17, x17)]) h
  := by kernel_rfl
theorem r71_10 {β : Type} (call : CallF) (md : Bool) (n : Nat) (k : Ex → List AV → Heap → Option β) (x3 x7 x8 x9 x17 : AV) (h : Heap) :
    runK C0 call md 71 n (.region 10 (O71 10) false) k (st 30 [(3, x3), (7, x7), (8, x8), (9, x9), (17, x17)]) h =
    bnd (aBinC tab .add 3 x17 (.int .i64 1) true) fun v1 =>
    k .normal (st 30 [(3, x3), (7, x7), (8, x8), (9, x9), (17, v1)]) h
  := by kernel_rfl
theorem r71_11 {β : Type} (call : CallF) (md : Bool) (n : Nat) (k : Ex → List AV → Heap → Option β) (x3 x7 x8 x9 x17 x18 : AV) (h : Heap) :
    runK C0 call md 71 n (.region 11 (O71 11) false) k (st 30 [(3, x3), (7, x7), (8, x8), (9, x9), (17, x17), (18, x18)]) h =
    bnd (aBinC tab .add 3 x9 (.int .i64 1) true) fun v1 =>
    k .normal (st 30 [(3, x3), (7, x7), (8, x8), (9, v1)]) h
  := by kernel_rfl
theorem r71_12 {β : Type} (call : CallF) (md : Bool) (n : Nat) (k : Ex → List AV → Heap → Option β) (x3 x7 x8 x9 x10 : AV) (h : Heap) :
    runK C0 call md 71 n (.region 12 (O71 12) false) k (st 30 [(3, x3), (7, x7), (8, x8), (9, x9), (10, x10)]) h =
    bnd (aUn .xor x3) fun v1 =>
    k .normal (st 30 [(2, v1)]) h
  := by kernel_rfl
end Go.Ax

/- sum.Of: what it computes. -/
namespace Go.Ax
open Go Go.Proofs

def crcBit (v : BitVec 32) : BitVec 32 := (v >>> 1) ^^^ (2197175160#32 * (v &&& 1#32))
def crcBits : Nat → BitVec 32 → BitVec 32
  | 0, v => v
  | n + 1, v => crcBits n (crcBit v)
def crcByte (v : BitVec 32) (c : UInt8) : BitVec 32 := crcBits 8 (v ^^^ c.toBitVec.setWidth 32)
def crc (l : List UInt8) : BitVec 32 := ~~~ (l.foldl crcByte 4294967295#32)

/-- Bytes in a slice that do not change. -/
def Bs (x : AV) (l : List UInt8) : Prop := (x = .nils ∧ l = []) ∨ ∃ k, x = .vsl 5 (l.map U8) k

theorem inner71 (call : CallF) (md : Bool) (N : Nat) (x7 x8 x9 : AV) (h : Heap) (K : Ex → List AV → Heap → Option (AV × Heap)) (r : AV × Heap) :
    ∀ (m n : Nat) (v : BitVec 32), m ≤ 8 → m < n → (∀ x, K (.exit 2) (st 30 [(3, U32 (crcBits m v)), (7, x7), (8, x8), (9, x9), (17, x), (18, .bool false)]) h = some r) →
    loopK (fun next => runK C0 call md 71 N B71_1 (seqE next K)) n (st 30 [(3, U32 v), (7, x7), (8, x8), (9, x9), (17, .int .i64 (8 - m : Nat))]) h = some r := by
  intro m
  induction m with
  | zero =>
    intro n v hm hn hK
    cases n with
    | zero => omega
    | succ n =>
      rw [loopK_succ]
      generalize loopK (fun next => runK C0 call md 71 N B71_1 (seqE next K)) n = L
      simp -implicitDefEqProofs only [B71_1, runK_seq, runK_cond, runK_skip, runK_exit, seqE_n, seqE_e, r71_7, bin_lss, bnd_s]
      rw [st_ev 30 _ 18 (.bool false) (by decide) rfl]
      exact hK _
  | succ m ih =>
    intro n v hm hn hK
    cases n with
    | zero => omega
    | succ n =>
      rw [loopK_succ]
      have ih' := ih n (crcBit v) (by omega) (by omega) hK
      generalize loopK (fun next => runK C0 call md 71 N B71_1 (seqE next K)) n = L at ih' ⊢
      have e : decide (((8 - (m + 1) : Nat) : Int) < 8) = true := by simp; omega
      simp -implicitDefEqProofs only [B71_1, runK_seq, runK_cond, runK_skip, runK_exit, seqE_n, seqE_e, r71_7, bin_lss, bnd_s, e]
      rw [st_ev 30 _ 18 (.bool true) (by decide) rfl]
      have c1 : AV.int .u32 1 = U32 1#32 := u32_lit 1 (by decide)
      have c2 : AV.int .u32 2197175160 = U32 2197175160#32 := u32_lit 2197175160 (by decide)
      have c3 := u32_shr tab 105 v true 1 (by decide)
      have e3 : IntKind.i64.wrap (((8 - (m + 1) : Nat) : Int) + 1) = ((8 - m : Nat) : Int) := by rw [wrap_i64] <;> omega
      simp -implicitDefEqProofs only [onB_t, runK_seq, runK_block, seqE_n, blkE_n, r71_8, r71_9, r71_10, c1, c2, u32_and, u32_mul, u32_xor, bnd_s, bin_add, e3] at c3 ⊢
      rw [show ((1 : Nat) : Int) = 1 from rfl] at c3
      simp -implicitDefEqProofs only [c3, bnd_s, u32_xor, blkE_n, seqE_n, r71_10, bin_add, e3]
      exact ih'

theorem Bs.len {x : AV} {l : List UInt8} (hx : Bs x l) : aLen tab 22 x = some (.int .i64 l.length) := by
  rcases hx with ⟨rfl, rfl⟩ | ⟨k, rfl⟩
  · exact len_nils22
  · rw [len22, List.length_map]

theorem Bs.idx {x : AV} {l : List UInt8} (hx : Bs x l) {i : Nat} {b : UInt8} (hi : l[i]? = some b) : aIndexAddr tab 22 x (.int .i64 i) = some (.vptr 5 (U8 b)) := by
  rcases hx with ⟨rfl, rfl⟩ | ⟨k, rfl⟩
  · simp at hi
  · rw [idx22]; simp [hi]

theorem outer71 (call : CallF) (md : Bool) (N : Nat) (hN : 9 ≤ N) (x : AV) (l : List UInt8) (hx : Bs x l) (h : Heap) (K : Ex → List AV → Heap → Option (AV × Heap)) (r : AV × Heap) :
    ∀ (m n i : Nat) (v : BitVec 32), i + m = l.length → m < n → l.length < 2 ^ 62 →
    (∀ y z, K (.exit 0) (st 30 [(3, U32 ((l.drop i).foldl crcByte v)), (7, x), (8, y), (9, z), (10, .bool false)]) h = some r) →
    loopK (fun next => runK C0 call md 71 N B71_2 (seqE next K)) n (st 30 [(3, U32 v), (7, x), (8, .int .i64 l.length), (9, .int .i64 i)]) h = some r := by
  intro m
  induction m with
  | zero =>
    intro n i v him hn hl hK
    cases n with
    | zero => omega
    | succ n =>
      rw [loopK_succ]
      generalize loopK (fun next => runK C0 call md 71 N B71_2 (seqE next K)) n = L
      have e : decide ((i : Int) < (l.length : Int)) = false := by simp; omega
      simp -implicitDefEqProofs only [B71_2, ↓runK_seq, runK_seq, ↓runK_cond, runK_cond, ↓runK_block, runK_block, ↓runK_loop, runK_loop, ↓runK_skip, runK_skip, ↓runK_ret, runK_ret, ↓runK_exit, runK_exit, ↓seqE_n, seqE_n, ↓seqE_e, seqE_e, ↓seqE_r, seqE_r, ↓blkE_n, blkE_n, ↓blkE_e, blkE_e, ↓blkE_r, blkE_r, ↓retK_n, retK_n, ↓retK_r, retK_r, r71_3, bin_lss, ↓aCall_fn, aCall_fn, ↓bnd_s, bnd_s, ↓bnd2_s, bnd2_s, ↓onB_t, onB_t, ↓onB_f, onB_f, ↓onG_tt, onG_tt, ↓onG_tf, onG_tf, ↓onG_ft, onG_ft, ↓onG_ff, onG_ff, ↓onG_s, onG_s, ↓onT_t, onT_t, ↓aPick_t, aPick_t, ↓aPick_f, aPick_f, decide_true, decide_false, st_tmp, results1, results2, List.lookup_cons, List.lookup_nil, Nat.reduceBEq, Bool.false_eq_true, ↓reduceIte, BEq.rfl, Nat.reduceLT, Option.getD_some, Option.getD_none, e]
      have := hK (.int .i64 l.length) (.int .i64 i)
      rw [List.drop_eq_nil_of_le (by omega)] at this
      exact this
  | succ m ih =>
    intro n i v him hn hl hK
    cases n with
    | zero => omega
    | succ n =>
      obtain ⟨b, hb⟩ : ∃ b, l[i]? = some b := ⟨l[i], List.getElem?_eq_getElem (by omega)⟩
      have hd : l.drop i = b :: l.drop (i + 1) := by
        obtain ⟨h1, h2⟩ := List.getElem?_eq_some_iff.1 hb
        rw [← h2]; exact List.drop_eq_getElem_cons h1
      rw [loopK_succ]
      rw [hd] at hK
      have ih' := ih n (i + 1) (crcByte v b) (by omega) (by omega) hl hK
      generalize loopK (fun next => runK C0 call md 71 N B71_2 (seqE next K)) n = L at ih' ⊢
      have e : decide ((i : Int) < (l.length : Int)) = true := by simp; omega
      simp -implicitDefEqProofs only [B71_2, ↓runK_seq, runK_seq, ↓runK_cond, runK_cond, ↓runK_block, runK_block, ↓runK_loop, runK_loop, ↓runK_skip, runK_skip, ↓runK_ret, runK_ret, ↓runK_exit, runK_exit, ↓seqE_n, seqE_n, ↓seqE_e, seqE_e, ↓seqE_r, seqE_r, ↓blkE_n, blkE_n, ↓blkE_e, blkE_e, ↓blkE_r, blkE_r, ↓retK_n, retK_n, ↓retK_r, retK_r, r71_3, r71_4, r71_5, r71_6, bin_lss, ↓aCall_fn, aCall_fn, ↓bnd_s, bnd_s, ↓bnd2_s, bnd2_s, ↓onB_t, onB_t, ↓onB_f, onB_f, ↓onG_tt, onG_tt, ↓onG_tf, onG_tf, ↓onG_ft, onG_ft, ↓onG_ff, onG_ff, ↓onG_s, onG_s, ↓onT_t, onT_t, ↓aPick_t, aPick_t, ↓aPick_f, aPick_f, decide_true, decide_false, st_tmp, results1, results2, List.lookup_cons, List.lookup_nil, Nat.reduceBEq, Bool.false_eq_true, ↓reduceIte, BEq.rfl, Nat.reduceLT, Option.getD_some, Option.getD_none, e, hx.idx hb, load5, conv_8_32, u32_xor]
      refine inner71 call md N _ _ _ h _ r 8 N _ (by omega) (by omega) fun y => ?_
      have e3 : IntKind.i64.wrap ((i : Int) + 1) = ((i + 1 : Nat) : Int) := by rw [wrap_i64] <;> omega
      simp -implicitDefEqProofs only [↓runK_seq, runK_seq, ↓runK_cond, runK_cond, ↓runK_block, runK_block, ↓runK_loop, runK_loop, ↓runK_skip, runK_skip, ↓runK_ret, runK_ret, ↓runK_exit, runK_exit, ↓seqE_n, seqE_n, ↓seqE_e, seqE_e, ↓seqE_r, seqE_r, ↓blkE_n, blkE_n, ↓blkE_e, blkE_e, ↓blkE_r, blkE_r, ↓retK_n, retK_n, ↓retK_r, retK_r, ↓aCall_fn, aCall_fn, ↓bnd_s, bnd_s, ↓bnd2_s, bnd2_s, ↓onB_t, onB_t, ↓onB_f, onB_f, ↓onG_tt, onG_tt, ↓onG_tf, onG_tf, ↓onG_ft, onG_ft, ↓onG_ff, onG_ff, ↓onG_s, onG_s, ↓onT_t, onT_t, ↓aPick_t, aPick_t, ↓aPick_f, aPick_f, decide_true, decide_false, r71_11, bin_add, e3]
      exact ih'

theorem sum_of {x : AV} {l : List UInt8} (hx : Bs x l) (hl : l.length < 2 ^ 62) (md : Bool) (h : Heap) (k : Nat) (hk : l.length + 9 < k) : exFn C0 E0 k md 71 [x] h = some (U32 (crc l), h) := by
  obtain ⟨k, rfl⟩ : ∃ j, k = j + 1 := ⟨k - 1, by omega⟩
  refine exFn_of e71 ?_
  rw [fnK, show ([x] ++ List.replicate (30 - [x].length) AV.undef) = st 30 [(0, x)] from rfl, s71]
  have c1 : AV.int .u32 4294967295 = U32 4294967295#32 := u32_lit 4294967295 (by decide)
  simp -implicitDefEqProofs only [↓runK_seq, runK_seq, ↓runK_cond, runK_cond, ↓runK_block, runK_block, ↓runK_loop, runK_loop, ↓runK_skip, runK_skip, ↓runK_ret, runK_ret, ↓runK_exit, runK_exit, ↓seqE_n, seqE_n, ↓seqE_e, seqE_e, ↓seqE_r, seqE_r, ↓blkE_n, blkE_n, ↓blkE_e, blkE_e, ↓blkE_r, blkE_r, ↓retK_n, retK_n, ↓retK_r, retK_r, ↓aCall_fn, aCall_fn, ↓bnd_s, bnd_s, ↓bnd2_s, bnd2_s, ↓onB_t, onB_t, ↓onB_f, onB_f, ↓onG_tt, onG_tt, ↓onG_tf, onG_tf, ↓onG_ft, onG_ft, ↓onG_ff, onG_ff, ↓onG_s, onG_s, ↓onT_t, onT_t, ↓aPick_t, aPick_t, ↓aPick_f, aPick_f, decide_true, decide_false, st_tmp, results1, results2, List.lookup_cons, List.lookup_nil, Nat.reduceBEq, Bool.false_eq_true, ↓reduceIte, BEq.rfl, Nat.reduceLT, Option.getD_some, Option.getD_none, r71_0, r71_1, r71_2, hx.len, c1]
  refine outer71 _ md k (by omega) x l hx h _ _ l.length k 0 _ (by omega) (by omega) hl fun y z => ?_
  simp -implicitDefEqProofs only [↓runK_seq, runK_seq, ↓runK_cond, runK_cond, ↓runK_block, runK_block, ↓runK_loop, runK_loop, ↓runK_skip, runK_skip, ↓runK_ret, runK_ret, ↓runK_exit, runK_exit, ↓seqE_n, seqE_n, ↓seqE_e, seqE_e, ↓seqE_r, seqE_r, ↓blkE_n, blkE_n, ↓blkE_e, blkE_e, ↓blkE_r, blkE_r, ↓retK_n, retK_n, ↓retK_r, retK_r, ↓aCall_fn, aCall_fn, ↓bnd_s, bnd_s, ↓bnd2_s, bnd2_s, ↓onB_t, onB_t, ↓onB_f, onB_f, ↓onG_tt, onG_tt, ↓onG_tf, onG_tf, ↓onG_ft, onG_ft, ↓onG_ff, onG_ff, ↓onG_s, onG_s, ↓onT_t, onT_t, ↓aPick_t, aPick_t, ↓aPick_f, aPick_f, decide_true, decide_false, st_tmp, results1, results2, List.lookup_cons, List.lookup_nil, Nat.reduceBEq, Bool.false_eq_true, ↓reduceIte, BEq.rfl, Nat.reduceLT, Option.getD_some, Option.getD_none, r71_12, u32_not, List.drop_zero]
  rfl
end Go.Ax

/- From an abstract run to a call in the model: the first world, byte slices and numbers that come in. -/
namespace Go.Ax
open Go Go.Proofs Go.RowKit

/-- Nothing may turn: all that is there. -/
def J0 (w : World) : Inj where
  imm b o := w.cell? ⟨b, o, none⟩
  loc _ := none
  shape _ := .var 0
  tloc _ _ := none
  own _ _ := 0

theorem rel0 (w : World) : Rel tab w.heap.size w (J0 w) [] w where
  below := Below.refl _ _
  base := Nat.le_refl _
  marks b hb ob ho := by rw [Array.getElem?_eq_none hb] at ho; cases ho
  imm _ _ _ hv := ⟨hv, rfl⟩
  own _ _ h := absurd rfl h
  fresh _ _ := ⟨rfl, fun _ => rfl⟩
  objs r ob h := by simp at h

theorem calls0 {g : FuncId} {x : Fn'} (hg : E0 g = some x) {k : Nat} {mode : Bool} {args : List AV} {h h' : Heap} {v : AV} (hr : exFn C0 E0 k mode g args h = some (v, h')) {B : Nat} {w0 w : World} {J : Inj} {xs : List Value}
    (R : Rel tab B w0 J h w) (hv : VRL tab J args xs) : Calls Try.prog g xs.toArray w fun e w' => ∃ J' r, J.Le J' ∧ e = .returned r ∧ VR tab J' v r ∧ Rel tab B w0 J' h' w' := by
  rcases call_ok k mode g args h v h' hr B w0 J w xs R hv with h1 | ⟨w', r, J', h1, -⟩
  · exact h1.2
  · exfalso
    obtain ⟨fn, hfn, hbody, hnt, hres, hname⟩ := E0_ok.fn g x hg
    have : (callFunc g xs.toArray).run Try.prog w = .ok (.enter g xs.toArray) w := by
      unfold callFunc
      simp only [Go.program, Sem.run_bind, Sem.run, Result.andThen_ok, hfn, hname, hbody, Option.isNone_some, Bool.false_eq_true, if_false]
      rfl
    rw [this] at h1
    cases h1

/-- A law that comes to true. -/
theorem law_calls {g : FuncId} {x : Fn'} (hg : E0 g = some x) {k : Nat} {args : List AV} {h' : Heap} (hr : exFn C0 E0 k false g args [] = some (.bool true, h')) {w : World} {xs : List Value} (hv : VRL tab (J0 w) args xs) :
    Calls Try.prog g xs.toArray w fun e w' => e = .returned (.bool true) ∧ Below w.heap.size w w' := by
  refine (calls0 hg hr (rel0 w) hv).mono fun e w' ⟨J', r, _, he, hv, R⟩ => ⟨?_, R.below⟩
  rw [he, hv.bool_inv]

/-- What the walk is told of a slice of bytes that came in. -/
def IsBytes (w : World) (a : Option Addr) (len cap : Nat) (zs : List Int) : Prop :=
  (a = none ∧ len = 0 ∧ cap = 0 ∧ zs = []) ∨
  ∃ x, a = some x ∧ x.spot = none ∧ len ≤ cap ∧ cap ≤ maxLen ∧ zs.length = cap ∧ (∀ i, i < zs.length → w.cell? (x.add i) = some (.int .u8 (zs.getD i 0))) ∧ ∀ n ∈ zs, (Lit.int .u8 n).wf = true

theorem flE_bytes {J : Inj} : ∀ (l : List UInt8), FlE tab J 5 (l.map U8) (l.map fun b => .int .u8 b.toNat)
  | [] => .nil
  | b :: l => .cons (.cell (by simp [Tab.cell, D.cell]) (.int _ _)) (flE_bytes l)

theorem wf_u8 {n : Int} (h : (Lit.int .u8 n).wf = true) : 0 ≤ n ∧ n < 256 := by
  simp only [Lit.wf, Bool.and_eq_true, decide_eq_true_eq] at h
  have h1 : IntKind.u8.min = 0 := by decide
  have h2 : IntKind.u8.max = 255 := by decide
  omega

theorem wf_u16 {n : Int} (h : (Lit.int .u16 n).wf = true) : 0 ≤ n ∧ n < 65536 := by
  simp only [Lit.wf, Bool.and_eq_true, decide_eq_true_eq] at h
  have h1 : IntKind.u16.min = 0 := by decide
  have h2 : IntKind.u16.max = 65535 := by decide
  omega

theorem wf_u64 {n : Int} (h : (Lit.int .u64 n).wf = true) : 0 ≤ n ∧ n < 18446744073709551616 := by
  simp only [Lit.wf, Bool.and_eq_true, decide_eq_true_eq] at h
  have h1 : IntKind.u64.min = 0 := by decide
  have h2 : IntKind.u64.max = 18446744073709551615 := by decide
  omega

theorem IsBytes.vr {w : World} {a : Option Addr} {len cap : Nat} {zs : List Int} (h : IsBytes w a len cap zs) : ∃ (x : AV) (b : List UInt8), Bs x b ∧ VR tab (J0 w) x (.slice a len cap) := by
  rcases h with ⟨rfl, rfl, rfl, rfl⟩ | ⟨⟨b, o, s⟩, rfl, hs, hle, hm, hl, hcell, hwf⟩
  · exact ⟨.nils, [], .inl ⟨rfl, rfl⟩, .cell .nils⟩
  · simp only at hs
    subst hs
    let l : List UInt8 := (zs.take len).map fun n => UInt8.ofNat n.toNat
    have hll : l.length = len := by simp [l]; omega
    refine ⟨.vsl 5 (l.map U8) .none, l, .inr ⟨_, rfl⟩, .cell ?_⟩
    have hc := Cell.vsl (T := tab) (J := J0 w) (e := 5) (k := .none) (b := b) (o := o) (n := cap - len) (flE_bytes l) (fun i v hv => ?_) trivial
    · rw [List.length_map, hll, Nat.add_sub_cancel' hle] at hc
      exact hc
    · have hi : i < len := by have := (List.getElem?_eq_some_iff.1 hv).1; rw [List.length_map, hll] at this; exact this
      have hz : zs[i]? = some (zs[i]'(by omega)) := List.getElem?_eq_getElem _
      have hw := wf_u8 (hwf _ (List.getElem_mem (show i < zs.length by omega)))
      have := hcell i (by omega)
      rw [Addr.add_mid] at this
      show w.cell? ⟨b, o + i, none⟩ = some v
      rw [this, ← hv, List.getD_eq_getElem?_getD, hz]
      simp only [l, List.getElem?_map, List.getElem?_take, hi, if_true, hz, Option.map_some, Option.getD_some]
      congr 2
      rw [UInt8.toNat_ofNat']
      omega

set_option maxRecDepth 100000 in
theorem spot_of {W : World} {base : Nat} {x : Addr} {len cap : Nat} (h : Value.okWide Try.prog W .any base 22 (.slice (some x) len cap)) : x.spot = none := by
  simp only [Value.okWide, Try.underlying22, Cell.okWide, Cell.ok, World.has] at h
  exact h.2.2.2.1

/-- Values that come in. -/
theorem vrl_nil {J : Inj} : VRL tab J [] [] := .nil
end Go.Ax

/- What comes in: plain data of any type as abstract values. -/
namespace Go.Ax
open Go Go.RowKit Go.ChangeShapes

/-- Plain data: numbers, truths, texts, and slices, structs and arrays of such. -/
def plain (T : Tab) : Nat → Ty → Bool
  | 0, _ => false
  | n + 1, t => match T.d t with
    | .int _ | .bool | .str => true
    | .slice e => plain T n e && decide (0 < T.size e)
    | .struct ts => ts.all (plain T n)
    | .arr _ e => plain T n e
    | _ => false

/-- An abstract value that came in, of a type. -/
inductive Wf (T : Tab) : Ty → AV → Prop
  | int {t k n} : T.d t = .int k → (Lit.int k n).wf = true → Wf T t (.int k n)
  | bool {t b} : T.d t = .bool → Wf T t (.bool b)
  | str {t} {s : ByteArray} : T.d t = .str → s.size ≤ maxLen → Wf T t (.str s)
  | nils {t e} : T.d t = .slice e → Wf T t .nils
  | vsl {t e l} : T.d t = .slice e → l.length ≤ maxLen → (∀ x ∈ l, Wf T e x) → Wf T t (.vsl (T.und e) l .none)
  | struct {t ts fs} : T.d t = .struct ts → fs.length = ts.length → (∀ (i : Nat) (f : Ty) (x : AV), ts[i]? = some f → fs[i]? = some x → Wf T f x) → Wf T t (.agg (T.und t) fs)
  | arr {t n e fs} : T.d t = .arr n e → fs.length = n → (∀ x ∈ fs, Wf T e x) → Wf T t (.agg (T.und t) fs)

section
variable {P : Program} {T : Tab} {w : World} {H : Type} {enc : TypeId × Value → H} {base : Nat} {held : Bool}

theorem Fits.cellsOf (F : Fits P T) {t : Ty} (h : T.d t ≠ .other) : P.cellsOf t = T.size t := by
  unfold Program.cellsOf
  rw [F.size t h]
  rfl

theorem flE_chunks {J : Inj} {e : Ty} (f : Nat → Option (List Value)) : ∀ (n : Nat), (∀ i, i < n → ∃ a cs, f i = some cs ∧ Fl T J e a cs ∧ Wf T e a) →
    ∃ l cs, l.length = n ∧ FlE T J e l cs ∧ (∀ x ∈ l, Wf T e x) ∧ cs = ((List.range n).map fun i => (f i).getD []).flatten := by
  intro n
  induction n with
  | zero => intro _; exact ⟨[], [], rfl, .nil, by simp, by simp⟩
  | succ n ih =>
    intro h
    obtain ⟨l, cs, h1, h2, h3, h4⟩ := ih fun i hi => h i (by omega)
    obtain ⟨a, c, hf, ha, hw⟩ := h n (by omega)
    refine ⟨l ++ [a], cs ++ c, by simp [h1], ?_, ?_, ?_⟩
    · have := h2.append (.cons ha .nil)
      simpa using this
    · intro x hx
      rcases List.mem_append.1 hx with hx | hx
      · exact h3 x hx
      · rw [List.mem_singleton.1 hx]; exact hw
    · rw [List.range_succ, List.map_append, List.flatten_append, h4, List.map_singleton, hf]
      simp

theorem flS_parts {J : Inj} : ∀ (ts : List Ty) (cs : List Value), cs.length = T.sizes ts →
    (∀ (i : Nat) (f : Ty), ts[i]? = some f → ∃ a, Fl T J f a ((cs.drop (T.sizes (ts.take i))).take (T.size f)) ∧ Wf T f a) →
    ∃ fs, FlS T J ts fs cs ∧ fs.length = ts.length ∧ ∀ (i : Nat) (f : Ty) (x : AV), ts[i]? = some f → fs[i]? = some x → Wf T f x := by
  intro ts
  induction ts with
  | nil =>
    intro cs hl _
    obtain rfl : cs = [] := List.eq_nil_of_length_eq_zero (by simpa [Tab.sizes] using hl)
    exact ⟨[], .nil, rfl, by simp⟩
  | cons t ts ih =>
    intro cs hl h
    have hs : T.sizes (t :: ts) = T.size t + T.sizes ts := by simp [Tab.sizes]
    rw [hs] at hl
    obtain ⟨a, ha, hw⟩ := h 0 t rfl
    simp only [List.take_zero, Tab.sizes, List.map_nil, List.sum_nil, List.drop_zero] at ha
    obtain ⟨fs, h1, h2, h3⟩ := ih (cs.drop (T.size t)) (by simp; omega) fun i f hi => by
      obtain ⟨b, hb, hwb⟩ := h (i + 1) f hi
      refine ⟨b, ?_, hwb⟩
      rw [List.drop_drop]
      rw [List.take_succ_cons, show T.sizes (t :: ts.take i) = T.size t + T.sizes (ts.take i) by simp [Tab.sizes]] at hb
      exact hb
    refine ⟨a :: fs, ?_, by simp [h2], fun i f x hi hx => ?_⟩
    · have := FlS.cons ha h1
      rwa [List.take_append_drop] at this
    · cases i with
      | zero => simp at hi hx; subst hi; subst hx; exact hw
      | succ i => exact h3 i f x (by simpa using hi) (by simpa using hx)

theorem trod_array_open {n : Nat} {e t : Ty} {fuel : Nat} {cs : List Value} {x : DataW H × List MemPlace} (ht : P.underlying t = some (.array n e)) (h : DataW.trod enc P w base (fun _ => true) held fuel t cs = some x) :
    ∃ m, fuel = m + 1 ∧ cs.length = P.cellsOf t ∧ ∀ i, i < n → ∃ y, DataW.trod enc P w base (fun _ => true) held m e ((cs.drop (i * P.cellsOf e)).take (P.cellsOf e)) = some y := by
  cases fuel with
  | zero => simp [DataW.trod] at h
  | succ m =>
    rw [DataW.trod_step] at h
    unfold DataW.trodStep at h
    simp only [ht] at h
    split at h
    · rename_i hl
      refine ⟨m, rfl, hl, fun i hi => ?_⟩
      simp only [Option.map_eq_some_iff] at h
      obtain ⟨xs, hxs, -⟩ := h
      have hlen : xs.length = n := by simpa using mapM_some_length hxs
      exact ⟨xs[i], by
        have := mapM_some_get hxs i i (by simp [hi])
        rw [this, List.getElem?_eq_getElem]⟩
    · cases h

theorem range_cells {b o k n : Nat} {cs : List Value} (g : Nat → List Value) (hg : ∀ i, i < n → (g i).length = k ∧ ∀ j, j < k → w.cell? ⟨b, o + i * k + j, none⟩ = (g i)[j]?) (hc : cs = ((List.range n).map g).flatten) :
    cs.length = n * k ∧ ∀ j v, cs[j]? = some v → w.cell? ⟨b, o + j, none⟩ = some v := by
  subst hc
  induction n with
  | zero => simp
  | succ n ih =>
    obtain ⟨h1, h2⟩ := ih fun i hi => hg i (by omega)
    obtain ⟨h3, h4⟩ := hg n (by omega)
    rw [List.range_succ, List.map_append, List.flatten_append]
    simp only [List.map_singleton, List.flatten_cons, List.flatten_nil, List.append_nil]
    refine ⟨by rw [List.length_append, h1, h3, Nat.succ_mul], fun j v hv => ?_⟩
    by_cases hj : j < n * k
    · rw [List.getElem?_append_left (by omega)] at hv
      exact h2 j v hv
    · rw [List.getElem?_append_right (by omega), h1] at hv
      have hjk := (List.getElem?_eq_some_iff.1 hv).1
      have := h4 (j - n * k) (by omega)
      rw [show o + n * k + (j - n * k) = o + j by omega] at this
      rw [this, hv]

theorem open_fl (F : Fits P T) : ∀ (n fuel : Nat) (t : Ty) (cs : List Value) (x : DataW H × List MemPlace), DataW.trod enc P w base (fun _ => true) held fuel t cs = some x → plain T n t = true →
    ∃ a, Fl T (J0 w) t a cs ∧ Wf T t a := by
  intro n
  induction n with
  | zero => intro _ _ _ _ _ h; cases h
  | succ n ih =>
    intro fuel t cs x h hp
    unfold plain at hp
    split at hp
    · rename_i k hd
      obtain ⟨m, rfl, -, hw⟩ := DataW.trod_int (F.und_int hd) h
      exact ⟨_, .cell (by simp [Tab.cell, hd, D.cell]) (.int _ _), .int hd hw⟩
    · rename_i hd
      obtain ⟨b, rfl, -⟩ := DataW.trod_bool (F.und_bool hd) h
      exact ⟨_, .cell (by simp [Tab.cell, hd, D.cell]) (.bool _), .bool hd⟩
    · rename_i hd
      obtain ⟨s, rfl, -, hs⟩ := DataW.trod_string (F.und_str hd) h
      exact ⟨_, .cell (by simp [Tab.cell, hd, D.cell]) (.str _), .str hd hs⟩
    · rename_i e hd
      simp only [Bool.and_eq_true, decide_eq_true_eq] at hp
      obtain ⟨hpe, hse⟩ := hp
      have hce := F.cellsOf (F.ok.sliceE _ _ hd)
      rcases DataW.trod_slice (F.und_slice hd) h with ⟨rfl, -⟩ | ⟨⟨b, o, sp⟩, len, cap, elems, rest, m, rfl, rfl, -, -, hl, hm, hlen, hel, hsp, -⟩
      · exact ⟨_, .cell (by simp [Tab.cell, hd, D.cell]) .nils, .nils hd⟩
      · by_cases hc : cap = 0
        · obtain rfl : len = 0 := by omega
          subst hc
          exact ⟨.vsl (T.und e) [] .none, .cell (by simp [Tab.cell, hd, D.cell]) .vsle, .vsl hd (by simp) (by simp)⟩
        · have hrest := hsp rfl
          have each : ∀ i, i < cap → ∃ cs' y, w.cells? base ((⟨b, o, sp⟩ : Addr).add (i * T.size e)) (T.size e) = some cs' ∧ DataW.trod enc P w base (fun _ => true) held m e cs' = some y := by
            intro i hi
            by_cases hil : i < len
            · have := hel i hil
              rw [List.getElem?_eq_getElem (by omega), Option.bind_eq_some_iff, hce] at this
              obtain ⟨cs', h1, h2⟩ := this
              exact ⟨cs', _, h1, h2⟩
            · have := hrest.2 (i - len) (by omega)
              rw [List.getElem?_eq_getElem (by omega), Option.bind_eq_some_iff, hce, show len + (i - len) = i by omega] at this
              obtain ⟨cs', h1, h2⟩ := this
              exact ⟨cs', _, h1, h2⟩
          obtain rfl : sp = none := by
            obtain ⟨cs', y, h1, -⟩ := each 0 (by omega)
            obtain ⟨-, h2, h3⟩ := World.cells?_some h1
            have := h3 0 hse
            rw [List.getElem?_eq_getElem (by omega)] at this
            simp only [Nat.zero_mul, Addr.add, if_true] at this
            unfold World.cell? at this
            cases sp with
            | none => rfl
            | some s => simp at this; split at this <;> simp at this
          have adr : ∀ i j, ((⟨b, o, none⟩ : Addr).add (i * T.size e)).add j = ⟨b, o + i * T.size e + j, none⟩ := by
            intro i j
            simp only [Addr.add]
            split <;> split <;> simp_all
          obtain ⟨l, cs, g1, g2, g3, g4⟩ := flE_chunks (T := T) (J := J0 w) (e := e) (fun i => w.cells? base ((⟨b, o, none⟩ : Addr).add (i * T.size e)) (T.size e)) len fun i hi => by
            obtain ⟨cs', y, h1, h2⟩ := each i (by omega)
            obtain ⟨a, ha, hw⟩ := ih m e cs' y h2 hpe
            exact ⟨a, cs', h1, ha, hw⟩
          have hcells := range_cells (w := w) (b := b) (o := o) (k := T.size e) (n := len) (cs := cs) (fun i => (w.cells? base ((⟨b, o, none⟩ : Addr).add (i * T.size e)) (T.size e)).getD []) (fun i hi => by
            obtain ⟨cs', y, h1, -⟩ := each i (by omega)
            obtain ⟨-, h2, h3⟩ := World.cells?_some h1
            rw [h1]
            refine ⟨h2, fun j hj => ?_⟩
            rw [← adr i j]
            exact h3 j hj) g4
          have g2' := FlE.conv F.ok (F.ok.undUnd e).symm g2
          refine ⟨.vsl (T.und e) l .none, .cell (by simp [Tab.cell, hd, D.cell]) ?_, .vsl hd (by omega) g3⟩
          have := Cell.vsl (T := T) (J := J0 w) (e := T.und e) (k := .none) (b := b) (o := o) (n := cap - len) g2' (fun i v hv => hcells.2 i v hv) trivial
          rw [g1, Nat.add_sub_cancel' hl] at this
          exact this
    · rename_i ts hd
      obtain ⟨fs, h1, h2, h3⟩ := F.und_struct hd
      obtain ⟨xs, m, rfl, -, hl, hx, hf⟩ := DataW.trod_struct h1 h
      rw [F.cellsOf (by rw [hd]; intro h; cases h), F.ok.struct _ _ hd] at hl
      have hp' := List.all_eq_true.1 hp
      obtain ⟨gs, q1, q2, q3⟩ := flS_parts (T := T) (J := J0 w) ts cs hl fun i f hi => by
        have hi2 : i < fs.toList.length := by
          have := (List.getElem?_eq_some_iff.1 hi).1
          rw [← h2] at this
          simpa using this
        have hi3 : i < fs.size := by simpa using hi2
        have e1 : fs[i]? = some fs[i] := Array.getElem?_eq_getElem hi3
        have e2 : fs[i].type = f := by
          rw [← h2, List.getElem?_map] at hi
          simp [hi3] at hi
          exact hi
        have := hf i fs[i] e1
        rw [List.getElem?_eq_getElem (by omega), h3 i _ e1, e2, F.cellsOf (F.ok.structE _ _ hd f (List.mem_of_getElem? hi))] at this
        exact ih m f _ _ this (hp' f (List.mem_of_getElem? hi))
      exact ⟨.agg (T.und t) gs, .struct hd rfl q1, .struct hd q2 q3⟩
    · rename_i k e hd
      obtain ⟨m, rfl, hl, he⟩ := trod_array_open (F.und_arr hd) h
      have hce := F.cellsOf (F.ok.arrE _ _ _ hd)
      rw [F.cellsOf (by rw [hd]; intro h; cases h), F.ok.arr _ _ _ hd] at hl
      obtain ⟨l, cs', g1, g2, g3, g4⟩ := flE_chunks (T := T) (J := J0 w) (e := e) (fun i => some ((cs.drop (i * T.size e)).take (T.size e))) k fun i hi => by
        obtain ⟨y, hy⟩ := he i hi
        rw [hce] at hy
        obtain ⟨a, ha, hw⟩ := ih m e _ y hy hp
        exact ⟨a, _, rfl, ha, hw⟩
      have hcs : cs' = cs := by
        rw [g4]
        clear g2 g4 he h
        simp only [Option.getD_some]
        have : ∀ n, n ≤ k → ((List.range n).map fun i => (cs.drop (i * T.size e)).take (T.size e)).flatten = cs.take (n * T.size e) := by
          intro n
          induction n with
          | zero => intro _; simp
          | succ n ih2 =>
            intro hn
            rw [List.range_succ, List.map_append, List.flatten_append, ih2 (by omega)]
            simp only [List.map_singleton, List.flatten_cons, List.flatten_nil, List.append_nil]
            rw [Nat.succ_mul, List.take_add]
        rw [this k (Nat.le_refl _), ← hl, List.take_length]
      subst hcs
      exact ⟨.agg (T.und t) l, .arr hd rfl g1 g2, .arr hd g1 g3⟩
    · cases hp

/-- An argument of a law. -/
theorem open_arg (F : Fits P T) {n : Nat} {t : Ty} {v : Value} {d : DataW H} {p : List MemPlace} {r : Reach} {b : Nat} (hok : Value.okWide P w r b t v) (h : DataW.Trod enc P w base (fun _ => true) held t v d p) (hp : plain T n t = true) :
    ∃ a, VR T (J0 w) a v ∧ Wf T t a := by
  obtain ⟨fuel, h⟩ := h
  obtain ⟨a, hf, hw⟩ := open_fl F n fuel t _ _ h hp
  refine ⟨a, ?_, hw⟩
  have cellcase : T.cell t = true → v.cells = #[v] → VR T (J0 w) a v := by
    intro hc hv
    rw [hv] at hf
    cases hf with
    | cell _ c => exact .cell c
    | struct hd _ _ => simp [Tab.cell, hd, D.cell] at hc
    | arr hd _ _ _ => simp [Tab.cell, hd, D.cell] at hc
  cases n with
  | zero => cases hp
  | succ n =>
    unfold plain at hp
    split at hp
    · rename_i k hd
      simp only [Value.okWide, F.und_int hd, Cell.okWide, Cell.ok] at hok
      refine cellcase (by simp [Tab.cell, hd, D.cell]) ?_
      cases v <;> first | rfl | exact hok.elim
    · rename_i hd
      simp only [Value.okWide, F.und_bool hd, Cell.okWide, Cell.ok] at hok
      refine cellcase (by simp [Tab.cell, hd, D.cell]) ?_
      cases v <;> first | rfl | exact hok.elim
    · rename_i hd
      simp only [Value.okWide, F.und_str hd, Cell.okWide, Cell.ok] at hok
      refine cellcase (by simp [Tab.cell, hd, D.cell]) ?_
      cases v <;> first | rfl | exact hok.elim
    · rename_i e hd
      simp only [Value.okWide, F.und_slice hd, Cell.okWide, Cell.ok] at hok
      refine cellcase (by simp [Tab.cell, hd, D.cell]) ?_
      cases v <;> first | rfl | exact hok.elim
    · rename_i ts hd
      obtain ⟨fs, h1, -⟩ := F.und_struct hd
      simp only [Value.okWide, h1] at hok
      obtain ⟨cs, rfl, -⟩ := hok
      obtain ⟨l, rfl⟩ : ∃ l : List Value, cs = l.toArray := ⟨cs.toList, by simp⟩
      change Fl T (J0 w) t a l at hf
      cases hf with
      | cell hc _ => simp [Tab.cell, hd, D.cell] at hc
      | struct hd' hu hs => exact .agg (.struct (by rw [hu, F.ok.und]; exact hd') (by rw [hu, F.ok.undUnd]) hs)
      | arr hd' _ _ _ => rw [hd] at hd'; cases hd'
    · rename_i k e hd
      simp only [Value.okWide, F.und_arr hd] at hok
      obtain ⟨cs, rfl, -⟩ := hok
      obtain ⟨l, rfl⟩ : ∃ l : List Value, cs = l.toArray := ⟨cs.toList, by simp⟩
      change Fl T (J0 w) t a l at hf
      cases hf with
      | cell hc _ => simp [Tab.cell, hd, D.cell] at hc
      | struct hd' _ _ => rw [hd] at hd'; cases hd'
      | arr hd' hu hl hs => exact .agg (.arr (by rw [hu, F.ok.und]; exact hd') (by rw [hu, F.ok.undUnd]) hl hs)
    · cases hp
end

/-- Arguments of a law. -/
theorem open_args {P : Program} {T : Tab} (F : Fits P T) {W : World} {H : Type} {enc : TypeId × Value → H} {n b : Nat} : ∀ (ts : List Ty) (vs : List Value) (ds : List (DataW H)) (ps : List MemPlace),
    DataW.TrodAll enc P W 0 (fun _ => true) true ts vs ds ps → (∀ (j : Nat) t v, ts[j]? = some t → vs[j]? = some v → Value.okWide P W .any b t v) → ts.all (plain T n) = true →
    ∃ xs, VRL T (J0 W) xs vs ∧ xs.length = ts.length ∧ ∀ (i : Nat) (t : Ty) (a : AV), ts[i]? = some t → xs[i]? = some a → Wf T t a := by
  intro ts
  induction ts with
  | nil =>
    intro vs ds ps h _ _
    cases vs <;> cases ds <;> simp [DataW.TrodAll] at h
    exact ⟨[], .nil, rfl, by simp⟩
  | cons t ts ih =>
    intro vs ds ps h hok hp
    obtain ⟨v, vs', d, ds', p, q, rfl, rfl, rfl, h1, h2⟩ := trodAll_cons h
    simp only [List.all_cons, Bool.and_eq_true] at hp
    obtain ⟨a, ha, hw⟩ := open_arg F (hok 0 t v rfl rfl) h1 hp.1
    obtain ⟨xs, hv, hl, hws⟩ := ih vs' ds' q h2 (fun j t v ht hv => hok (j + 1) t v (by simpa using ht) (by simpa using hv)) hp.2
    refine ⟨a :: xs, .cons ha hv, by simp [hl], fun i t' a' hi ha' => ?_⟩
    cases i with
    | zero => simp at hi ha'; subst hi; subst ha'; exact hw
    | succ i => exact hws i t' a' (by simpa using hi) (by simpa using ha')

/-- Behind the call all arguments read as they did. -/
theorem all_stay {P : Program} {H : Type} {enc : TypeId × Value → H} (hl : laidOutB P = true) {W W' : World} (bel : Below W.heap.size W W') : ∀ (ts : List Ty) (vs : List Value) (ds : List (DataW H)) (ps : List MemPlace),
    DataW.TrodAll enc P W 0 (fun _ => true) true ts vs ds ps → ts.all (fun t => P.readableRec t && decide (t < P.types.size)) = true →
    ∃ qs, DataW.TrodAll enc P W' 0 (fun b => decide (b < W.heap.size)) true ts vs ds qs := by
  intro ts
  induction ts with
  | nil =>
    intro vs ds ps h _
    cases vs <;> cases ds <;> simp [DataW.TrodAll] at h
    exact ⟨[], rfl⟩
  | cons t ts ih =>
    intro vs ds ps h hp
    obtain ⟨v, vs', d, ds', p, q, rfl, rfl, rfl, h1, h2⟩ := trodAll_cons h
    simp only [List.all_cons, Bool.and_eq_true, decide_eq_true_eq] at hp
    obtain ⟨qs, hq⟩ := ih vs' ds' q h2 hp.2
    have lt : ∀ x ∈ p, x.block < W.heap.size := by obtain ⟨m, hm⟩ := h1; exact DataW.trod_lt m _ _ _ hm
    exact ⟨_, trodAll_cons_mk (Below.trod hl hp.1.1 hp.1.2 h1 bel lt) hq⟩
end Go.Ax

/- What the regions of some functions hand on. Printed by a program of mine (gen.py). -/
set_option linter.unusedVariables false
namespace Go.Ax
open Go Go.Proofs
/-! ### interregnum/region.Put -/
noncomputable def O70 (i : Nat) : Array Oper := opsOf i (bodyOf Try.f70)
theorem s70 : bodyOf Try.f70 = (.seq (.region 0 (O70 0) false) (.seq (.region 1 (O70 1) false) .ret)) := by kernel_rfl
theorem e70 : E0 70 = some ⟨19, [4], bodyOf Try.f70⟩ := by kernel_rfl
theorem r70_0 {β : Type} (call : CallF) (md : Bool) (n : Nat) (k : Ex → List AV → Heap → Option β) (x0 x1 : AV) (h : Heap) :
    runK C0 call md 70 n (.region 0 (O70 0) false) k (st 19 [(0, x0), (1, x1)]) h =
    k .normal (st 19 [(0, x0), (1, x1)]) h
  := by kernel_rfl
theorem r70_1 {β : Type} (call : CallF) (md : Bool) (n : Nat) (k : Ex → List AV → Heap → Option β) (x0 x1 : AV) (h : Heap) :
    runK C0 call md 70 n (.region 1 (O70 1) false) k (st 19 [(0, x0), (1, x1)]) h =
    bnd (aBinC tab .shr 105 x1 (.int .u64 24) true) fun v1 =>
    bnd (aConv tab 105 5 v1 h) fun v2 =>
    bnd (aBinC tab .shr 105 x1 (.int .u64 16) true) fun v3 =>
    bnd (aConv tab 105 5 v3 h) fun v4 =>
    bnd (aBinC tab .shr 105 x1 (.int .u64 8) true) fun v5 =>
    bnd (aConv tab 105 5 v5 h) fun v6 =>
    bnd (aConv tab 105 5 x1 h) fun v7 =>
    bnd (aLit tab 22 4 [(0, v2), (1, v4), (2, v6), (3, v7)]) fun v8 =>
    bnd2 (aApp tab 22 22 md x0 v8 h) fun v9 h10 =>
    k .normal (st 19 [(4, v9)]) h10
  := by kernel_rfl
end Go.Ax

/- What the regions of some functions hand on. Printed by a program of mine (gen.py). -/
set_option linter.unusedVariables false
namespace Go.Ax
open Go Go.Proofs
/-! ### interregnum/region.Get -/
noncomputable def O72 (i : Nat) : Array Oper := opsOf i (bodyOf Try.f72)
noncomputable def B72_1 : Code := (.seq (.region 3 (O72 3) false) (.seq (.cond (Go.Operand.tmp 13) .skip (.exit 0)) (.seq (.block 1 (.seq (.region 4 (O72 4) false) (.region 5 (O72 5) false))) (.region 6 (O72 6) false))))
theorem s72 : bodyOf Try.f72 = (.seq (.region 0 (O72 0) false) (.seq (.region 1 (O72 1) false) (.seq (.seq (.region 2 (O72 2) false) (.block 0 (.loop B72_1))) (.seq (.region 7 (O72 7) false) .ret)))) := by kernel_rfl
theorem e72 : E0 72 = some ⟨23, [2], bodyOf Try.f72⟩ := by kernel_rfl
theorem r72_0 {β : Type} (call : CallF) (md : Bool) (n : Nat) (k : Ex → List AV → Heap → Option β) (x0 : AV) (h : Heap) :
    runK C0 call md 72 n (.region 0 (O72 0) false) k (st 23 [(0, x0)]) h =
    k .normal (st 23 [(0, x0)]) h
  := by kernel_rfl
theorem r72_1 {β : Type} (call : CallF) (md : Bool) (n : Nat) (k : Ex → List AV → Heap → Option β) (x0 : AV) (h : Heap) :
    runK C0 call md 72 n (.region 1 (O72 1) false) k (st 23 [(0, x0)]) h =
    k .normal (st 23 [(0, x0), (3, (.int .u32 0))]) h
  := by kernel_rfl
theorem r72_2 {β : Type} (call : CallF) (md : Bool) (n : Nat) (k : Ex → List AV → Heap → Option β) (x0 x3 : AV) (h : Heap) :
    runK C0 call md 72 n (.region 2 (O72 2) false) k (st 23 [(0, x0), (3, x3)]) h =
    bnd (aLen tab 22 x0) fun v1 =>
    bnd (aMin [v1, (.int .i64 4)]) fun v2 =>
    bnd (aSlice tab 22 x0 none (some v2) none) fun v3 =>
    bnd (aLen tab 22 v3) fun v4 =>
    k .normal (st 23 [(3, x3), (10, v3), (11, v4), (12, (.int .i64 0))]) h
  := by kernel_rfl
theorem r72_3 {β : Type} (call : CallF) (md : Bool) (n : Nat) (k : Ex → List AV → Heap → Option β) (x3 x10 x11 x12 : AV) (h : Heap) :
    runK C0 call md 72 n (.region 3 (O72 3) false) k (st 23 [(3, x3), (10, x10), (11, x11), (12, x12)]) h =
    bnd (aBinC tab .lss 3 x12 x11 false) fun v1 =>
    k .normal (st 23 [(3, x3), (10, x10), (11, x11), (12, x12), (13, v1)]) h
  := by kernel_rfl
theorem r72_4 {β : Type} (call : CallF) (md : Bool) (n : Nat) (k : Ex → List AV → Heap → Option β) (x3 x10 x11 x12 x13 : AV) (h : Heap) :
    runK C0 call md 72 n (.region 4 (O72 4) false) k (st 23 [(3, x3), (10, x10), (11, x11), (12, x12), (13, x13)]) h =
    bnd (aIndexAddr tab 22 x10 x12) fun v1 =>
    bnd (aLoad tab 5 v1 h) fun v2 =>
    k .normal (st 23 [(3, x3), (5, v2), (10, x10), (11, x11), (12, x12)]) h
  := by kernel_rfl
theorem r72_5 {β : Type} (call : CallF) (md : Bool) (n : Nat) (k : Ex → List AV → Heap → Option β) (x3 x5 x10 x11 x12 : AV) (h : Heap) :
    runK C0 call md 72 n (.region 5 (O72 5) false) k (st 23 [(3, x3), (5, x5), (10, x10), (11, x11), (12, x12)]) h =
    bnd (aBinC tab .shl 105 x3 (.int .u64 8) true) fun v1 =>
    bnd (aConv tab 5 105 x5 h) fun v2 =>
    bnd (aBinC tab .or 105 v1 v2 false) fun v3 =>
    k .normal (st 23 [(3, v3), (10, x10), (11, x11), (12, x12)]) h
  := by kernel_rfl
theorem r72_6 {β : Type} (call : CallF) (md : Bool) (n : Nat) (k : Ex → List AV → Heap → Option β) (x3 x10 x11 x12 : AV) (h : Heap) :
    runK C0 call md 72 n (.region 6 (O72 6) false) k (st 23 [(3, x3), (10, x10), (11, x11), (12, x12)]) h =
    bnd (aBinC tab .add 3 x12 (.int .i64 1) true) fun v1 =>
    k .normal (st 23 [(3, x3), (10, x10), (11, x11), (12, v1)]) h
  := by kernel_rfl
theorem r72_7 {β : Type} (call : CallF) (md : Bool) (n : Nat) (k : Ex → List AV → Heap → Option β) (x3 x10 x11 x12 x13 : AV) (h : Heap) :
    runK C0 call md 72 n (.region 7 (O72 7) false) k (st 23 [(3, x3), (10, x10), (11, x11), (12, x12), (13, x13)]) h =
    k .normal (st 23 [(2, x3)]) h
  := by kernel_rfl
end Go.Ax

/- What the regions of some functions hand on. Printed by a program of mine (gen.py). -/
set_option linter.unusedVariables false
namespace Go.Ax
open Go Go.Proofs
/-! ### interregnum/region.Size -/
noncomputable def O45 (i : Nat) : Array Oper := opsOf i (bodyOf Try.f45)
theorem s45 : bodyOf Try.f45 = (.seq (.region 0 (O45 0) false) (.seq (.region 1 (O45 1) false) .ret)) := by kernel_rfl
theorem e45 : E0 45 = some ⟨9, [2], bodyOf Try.f45⟩ := by kernel_rfl
theorem r45_0 {β : Type} (call : CallF) (md : Bool) (n : Nat) (k : Ex → List AV → Heap → Option β) (x0 : AV) (h : Heap) :
    runK C0 call md 45 n (.region 0 (O45 0) false) k (st 9 [(0, x0)]) h =
    k .normal (st 9 [(0, x0)]) h
  := by kernel_rfl
theorem r45_1 {β : Type} (call : CallF) (md : Bool) (n : Nat) (k : Ex → List AV → Heap → Option β) (x0 : AV) (h : Heap) :
    runK C0 call md 45 n (.region 1 (O45 1) false) k (st 9 [(0, x0)]) h =
    bnd (aMax [x0, (.int .i64 0)]) fun v1 =>
    bnd (aBinC tab .add 3 v1 (.int .i64 64) true) fun v2 =>
    bnd (aBinC tab .sub 3 v2 (.int .i64 1) true) fun v3 =>
    bnd (aBinC tab .quo 3 v3 (.int .i64 64) true) fun v4 =>
    bnd (aBinC tab .add 3 (.int .i64 1) v4 true) fun v5 =>
    k .normal (st 9 [(2, v5)]) h
  := by kernel_rfl
end Go.Ax

/- What the regions of some functions hand on. Printed by a program of mine (gen.py). -/
set_option linter.unusedVariables false
namespace Go.Ax
open Go Go.Proofs
/-! ### interregnum/region.first -/
noncomputable def O47 (i : Nat) : Array Oper := opsOf i (bodyOf Try.f47)
theorem s47 : bodyOf Try.f47 = (.seq (.region 0 (O47 0) false) (.seq (.region 1 (O47 1) false) (.seq (.region 2 (O47 2) false) .ret))) := by kernel_rfl
theorem e47 : E0 47 = some ⟨20, [4], bodyOf Try.f47⟩ := by kernel_rfl
theorem r47_0 {β : Type} (call : CallF) (md : Bool) (n : Nat) (k : Ex → List AV → Heap → Option β) (x0 x1 : AV) (h : Heap) :
    runK C0 call md 47 n (.region 0 (O47 0) false) k (st 20 [(0, x0), (1, x1)]) h =
    k .normal (st 20 [(0, x0), (1, x1)]) h
  := by kernel_rfl
theorem r47_1 {β : Type} (call : CallF) (md : Bool) (n : Nat) (k : Ex → List AV → Heap → Option β) (x0 x1 : AV) (h : Heap) :
    runK C0 call md 47 n (.region 1 (O47 1) false) k (st 20 [(0, x0), (1, x1)]) h =
    bnd (aConv tab 3 105 x0 h) fun v1 =>
    bnd2 (aCall call md (.fn (.func 70) []) [.nils, v1] h) fun v2 h3 =>
    bnd (aLen tab 22 x1) fun v4 =>
    bnd (aConv tab 3 105 v4 h3) fun v5 =>
    bnd2 (aCall call md (.fn (.func 70) []) [v2, v5] h3) fun v6 h7 =>
    bnd2 (aCall call md (.fn (.func 71) []) [x1] h7) fun v8 h9 =>
    bnd2 (aCall call md (.fn (.func 70) []) [v6, v8] h9) fun v10 h11 =>
    k .normal (st 20 [(5, v10)]) h11
  := by kernel_rfl
theorem r47_2 {β : Type} (call : CallF) (md : Bool) (n : Nat) (k : Ex → List AV → Heap → Option β) (x5 : AV) (h : Heap) :
    runK C0 call md 47 n (.region 2 (O47 2) false) k (st 20 [(5, x5)]) h =
    bnd2 (aCall call md (.fn (.func 71) []) [x5] h) fun v1 h2 =>
    bnd2 (aCall call md (.fn (.func 70) []) [x5, v1] h2) fun v3 h4 =>
    k .normal (st 20 [(4, v3)]) h4
  := by kernel_rfl
end Go.Ax

/- What the regions of some functions hand on. Printed by a program of mine (gen.py). -/
set_option linter.unusedVariables false
namespace Go.Ax
open Go Go.Proofs
/-! ### bytes.Clone -/
noncomputable def O52 (i : Nat) : Array Oper := opsOf i (bodyOf Try.f52)
theorem s52 : bodyOf Try.f52 = (.seq (.region 0 (O52 0) false) (.seq (.seq (.region 1 (O52 1) false) (.cond (Go.Operand.tmp 4) (.seq (.region 2 (O52 2) false) .ret) .skip)) (.seq (.region 3 (O52 3) false) .ret))) := by kernel_rfl
theorem e52 : E0 52 = some ⟨8, [2], bodyOf Try.f52⟩ := by kernel_rfl
theorem r52_0 {β : Type} (call : CallF) (md : Bool) (n : Nat) (k : Ex → List AV → Heap → Option β) (x0 : AV) (h : Heap) :
    runK C0 call md 52 n (.region 0 (O52 0) false) k (st 8 [(0, x0)]) h =
    k .normal (st 8 [(0, x0)]) h
  := by kernel_rfl
theorem r52_1 {β : Type} (call : CallF) (md : Bool) (n : Nat) (k : Ex → List AV → Heap → Option β) (x0 : AV) (h : Heap) :
    runK C0 call md 52 n (.region 1 (O52 1) false) k (st 8 [(0, x0)]) h =
    bnd (aBinC tab .eql 22 x0 .nils true) fun v1 =>
    k .normal (st 8 [(0, x0), (4, v1)]) h
  := by kernel_rfl
theorem r52_2 {β : Type} (call : CallF) (md : Bool) (n : Nat) (k : Ex → List AV → Heap → Option β) (x0 x4 : AV) (h : Heap) :
    runK C0 call md 52 n (.region 2 (O52 2) false) k (st 8 [(0, x0), (4, x4)]) h =
    k .normal (st 8 [(2, .nils)]) h
  := by kernel_rfl
theorem r52_3 {β : Type} (call : CallF) (md : Bool) (n : Nat) (k : Ex → List AV → Heap → Option β) (x0 x4 : AV) (h : Heap) :
    runK C0 call md 52 n (.region 3 (O52 3) false) k (st 8 [(0, x0), (4, x4)]) h =
    bnd (aLit tab 22 0 []) fun v1 =>
    bnd2 (aApp tab 22 22 md v1 x0 h) fun v2 h3 =>
    k .normal (st 8 [(2, v2)]) h3
  := by kernel_rfl
end Go.Ax

/- Put, Get, Size, first, Clone: what they compute. -/
namespace Go.Ax
open Go Go.Proofs

theorem lit22_4 (a b c d : UInt8) : aLit tab 22 4 [(0, U8 a), (1, U8 b), (2, U8 c), (3, U8 d)] = some (.vsl 5 [U8 a, U8 b, U8 c, U8 d] .exact) := by kernel_rfl
theorem lit22_0 : aLit tab 22 0 [] = some (.vsl 5 [] .exact) := by kernel_rfl
theorem app22 (x : AV) (new : List AV) (k : Tok) (h : Heap) : aApp tab 22 22 false x (.vsl 5 new k) h = aAppend tab 5 false x new h := by kernel_rfl
theorem app22n (x : AV) (h : Heap) : aApp tab 22 22 false x .nils h = aAppend tab 5 false x [] h := by kernel_rfl

/-- Four bytes, the highest first. -/
def byte (v : BitVec 32) : UInt8 := UInt8.ofBitVec (v.setWidth 8)
def be4 (v : BitVec 32) : List UInt8 := [byte (v >>> 24), byte (v >>> 16), byte (v >>> 8), byte v]

theorem conv_byte (v : BitVec 32) (h : Heap) : aConv tab 105 5 (U32 v) h = some (U8 (byte v)) := conv_32_8 h v

/-- Bytes to append to. -/
abbrev ApB (S : Obs) (h : Heap) (x : AV) (l : List UInt8) : Prop := Ap 5 S h x (l.map U8)

theorem Ap.bs {S : Obs} {h : Heap} {x : AV} {l : List UInt8} (a : ApB S h x l) : Bs x l := by
  rcases a with ⟨rfl, hl⟩ | ⟨k, rfl, -⟩
  · exact .inl ⟨rfl, by simpa using hl⟩
  · exact .inr ⟨k, rfl⟩

theorem ApB.append {S : Obs} {h : Heap} {x : AV} {l new : List UInt8} (a : ApB S h x l) (up : Up S h) (hne : new ≠ []) (hl : l.length + new.length < 2 ^ 40) :
    ∃ x' h', aAppend tab 5 false x (new.map U8) h = some (x', h') ∧ ApB S h' x' (l ++ new) ∧ Keep S h h' ∧ NoTok h h' := by
  have hu : Tab.und tab 5 = 5 := tu5
  obtain ⟨x', h', k, h1, h2, h3, h4, h5⟩ := Ap.append (T := tab) (e := 5) (S := S) (h := h) (x := x) (l := l.map U8) (new := new.map U8) (by rw [hu]; exact a) up (by simpa using hne) (by simp)
    (by simp; omega) (by simp; omega) (by simp)
  rw [hu, ← List.map_append] at h3
  exact ⟨x', h', h1, h3, h4, h5⟩

theorem put_ok {S : Obs} {h : Heap} {x : AV} {l : List UInt8} (a : ApB S h x l) (up : Up S h) (hl : l.length < 2 ^ 39) (v : BitVec 32) (k : Nat) :
    ∃ x' h', exFn C0 E0 (k + 1) false 70 [x, U32 v] h = some (x', h') ∧ ApB S h' x' (l ++ be4 v) ∧ Keep S h h' := by
  obtain ⟨x', h', h1, h2, h3, -⟩ := a.append up (new := be4 v) (by simp [be4]) (by simp [be4]; omega)
  refine ⟨x', h', exFn_of e70 ?_, h2, h3⟩
  rw [fnK, show ([x, U32 v] ++ List.replicate (19 - [x, U32 v].length) AV.undef) = st 19 [(0, x), (1, U32 v)] from rfl, s70]
  have c1 := u32_shr tab 105 v true 24 (by decide)
  have c2 := u32_shr tab 105 v true 16 (by decide)
  have c3 := u32_shr tab 105 v true 8 (by decide)
  simp only [Int.cast_ofNat_Int] at c1 c2 c3
  simp -implicitDefEqProofs only [↓runK_seq, runK_seq, ↓runK_cond, runK_cond, ↓runK_block, runK_block, ↓runK_loop, runK_loop, ↓runK_skip, runK_skip, ↓runK_ret, runK_ret, ↓runK_exit, runK_exit, ↓seqE_n, seqE_n, ↓seqE_e, seqE_e, ↓seqE_r, seqE_r, ↓blkE_n, blkE_n, ↓blkE_e, blkE_e, ↓blkE_r, blkE_r, ↓retK_n, retK_n, ↓retK_r, retK_r, ↓aCall_fn, aCall_fn, ↓bnd_s, bnd_s, ↓bnd2_s, bnd2_s, ↓onB_t, onB_t, ↓onB_f, onB_f, ↓onG_tt, onG_tt, ↓onG_tf, onG_tf, ↓onG_ft, onG_ft, ↓onG_ff, onG_ff, ↓onG_s, onG_s, ↓onT_t, onT_t, ↓aPick_t, aPick_t, ↓aPick_f, aPick_f, decide_true, decide_false, st_tmp, results1, results2, List.lookup_cons, List.lookup_nil, Nat.reduceBEq, Bool.false_eq_true, ↓reduceIte, BEq.rfl, Nat.reduceLT, Option.getD_some, Option.getD_none, ↓r70_0, r70_0, ↓r70_1, r70_1, c1, c2, c3, conv_byte, lit22_4, app22]
  rw [show [U8 (byte (v >>> 24)), U8 (byte (v >>> 16)), U8 (byte (v >>> 8)), U8 (byte v)] = (be4 v).map U8 from rfl, h1]
  simp -implicitDefEqProofs only [↓runK_seq, runK_seq, ↓runK_cond, runK_cond, ↓runK_block, runK_block, ↓runK_loop, runK_loop, ↓runK_skip, runK_skip, ↓runK_ret, runK_ret, ↓runK_exit, runK_exit, ↓seqE_n, seqE_n, ↓seqE_e, seqE_e, ↓seqE_r, seqE_r, ↓blkE_n, blkE_n, ↓blkE_e, blkE_e, ↓blkE_r, blkE_r, ↓retK_n, retK_n, ↓retK_r, retK_r, ↓aCall_fn, aCall_fn, ↓bnd_s, bnd_s, ↓bnd2_s, bnd2_s, ↓onB_t, onB_t, ↓onB_f, onB_f, ↓onG_tt, onG_tt, ↓onG_tf, onG_tf, ↓onG_ft, onG_ft, ↓onG_ff, onG_ff, ↓onG_s, onG_s, ↓onT_t, onT_t, ↓aPick_t, aPick_t, ↓aPick_f, aPick_f, decide_true, decide_false, st_tmp, results1, results2, List.lookup_cons, List.lookup_nil, Nat.reduceBEq, Bool.false_eq_true, ↓reduceIte, BEq.rfl, Nat.reduceLT, Option.getD_some, Option.getD_none]

/-- An entry's sectors. -/
def sizeOf (n : Int) : Int := 1 + (max n 0 + 63) / 64

theorem max2_i64 (a b : Int) : aMax [.int .i64 a, .int .i64 b] = some (.int .i64 (if a < b then b else a)) := by
  kernel_rfl
theorem min2_i64 (a b : Int) : aMin [.int .i64 a, .int .i64 b] = some (.int .i64 (if b < a then b else a)) := by
  kernel_rfl

theorem size_ok (n : Int) (hn : n < 2 ^ 62) (md : Bool) (h : Heap) (k : Nat) : exFn C0 E0 (k + 1) md 45 [.int .i64 n] h = some (.int .i64 (sizeOf n), h) := by
  refine exFn_of e45 ?_
  rw [fnK, show ([AV.int .i64 n] ++ List.replicate (9 - [AV.int .i64 n].length) AV.undef) = st 9 [(0, .int .i64 n)] from rfl, s45]
  have hm : 0 ≤ (if n < 0 then 0 else n) ∧ (if n < 0 then 0 else n) < 2 ^ 62 ∧ (if n < 0 then 0 else n) = max n 0 := by split <;> omega
  obtain ⟨m1, m2, m3⟩ := hm
  have w1 : IntKind.i64.wrap ((if n < 0 then 0 else n) + 64) = (if n < 0 then 0 else n) + 64 := wrap_i64 (by omega) (by omega)
  have w2 : IntKind.i64.wrap ((if n < 0 then 0 else n) + 64 - 1) = (if n < 0 then 0 else n) + 63 := by rw [wrap_i64] <;> omega
  have w3 : IntKind.i64.wrap (((if n < 0 then 0 else n) + 63).tdiv 64) = (max n 0 + 63) / 64 := by
    rw [m3, Int.tdiv_eq_ediv_of_nonneg (by omega)]; exact wrap_i64 (by omega) (by omega)
  have w4 : IntKind.i64.wrap (1 + (max n 0 + 63) / 64) = sizeOf n := wrap_i64 (by omega) (by omega)
  simp -implicitDefEqProofs only [↓runK_seq, runK_seq, ↓runK_cond, runK_cond, ↓runK_block, runK_block, ↓runK_loop, runK_loop, ↓runK_skip, runK_skip, ↓runK_ret, runK_ret, ↓runK_exit, runK_exit, ↓seqE_n, seqE_n, ↓seqE_e, seqE_e, ↓seqE_r, seqE_r, ↓blkE_n, blkE_n, ↓blkE_e, blkE_e, ↓blkE_r, blkE_r, ↓retK_n, retK_n, ↓retK_r, retK_r, ↓aCall_fn, aCall_fn, ↓bnd_s, bnd_s, ↓bnd2_s, bnd2_s, ↓onB_t, onB_t, ↓onB_f, onB_f, ↓onG_tt, onG_tt, ↓onG_tf, onG_tf, ↓onG_ft, onG_ft, ↓onG_ff, onG_ff, ↓onG_s, onG_s, ↓onT_t, onT_t, ↓aPick_t, aPick_t, ↓aPick_f, aPick_f, decide_true, decide_false, st_tmp, results1, results2, List.lookup_cons, List.lookup_nil, Nat.reduceBEq, Bool.false_eq_true, ↓reduceIte, BEq.rfl, Nat.reduceLT, Option.getD_some, Option.getD_none, ↓r45_0, r45_0, ↓r45_1, r45_1, max2_i64, bin_add, bin_sub, w1, w2, bin_quo tab 3 .i64 _ 64 true (by decide), w3, w4]

/-- An entry's head. -/
def head12 (g : BitVec 32) (l : List UInt8) : List UInt8 := be4 g ++ be4 (BitVec.ofNat 32 l.length) ++ be4 (crc l)
def head16 (g : BitVec 32) (l : List UInt8) : List UInt8 := head12 g l ++ be4 (crc (head12 g l))

theorem first_ok {x : AV} {l : List UInt8} (hx : Bs x l) (hl : l.length < 2 ^ 31) (gen : Int) (h : Heap) (k : Nat) (hk : l.length + 30 < k) :
    ∃ x' h', exFn C0 E0 (k + 1) false 47 [.int .i64 gen, x] h = some (x', h') ∧ ApB (From h.length) h' x' (head16 (BitVec.ofInt 32 gen) l) ∧ Keep (From h.length) h h' := by
  obtain ⟨k, rfl⟩ : ∃ j, k = j + 1 := ⟨k - 1, by omega⟩
  have up := Up.fresh h
  have a0 : ApB (From h.length) h .nils [] := .inl ⟨rfl, rfl⟩
  obtain ⟨x1, h1, p1, a1, k1⟩ := put_ok a0 up (by simp) (BitVec.ofInt 32 gen) k
  obtain ⟨x2, h2, p2, a2, k2⟩ := put_ok a1 (up.keep k1) (by simp [be4]) (BitVec.ofNat 32 l.length) k
  obtain ⟨x3, h3, p3, a3, k3⟩ := put_ok a2 ((up.keep k1).keep k2) (by simp [be4]) (crc l) k
  obtain ⟨x4, h4, p4, a4, k4⟩ := put_ok a3 (((up.keep k1).keep k2).keep k3) (by simp [be4]) (crc (head12 (BitVec.ofInt 32 gen) l)) k
  have s1 := sum_of hx (by omega) false h2 (k + 1) (by omega)
  have s2 := sum_of a3.bs (by simp [be4]) false h3 (k + 1) (by simp [be4]; omega)
  refine ⟨x4, h4, exFn_of e47 ?_, by simpa [head16, head12] using a4, ((k1.trans k2).trans k3).trans k4⟩
  rw [fnK, show ([AV.int .i64 gen, x] ++ List.replicate (20 - [AV.int .i64 gen, x].length) AV.undef) = st 20 [(0, .int .i64 gen), (1, x)] from rfl, s47]
  have c1 := conv_64_32 h1 (l.length : Int)
  rw [show BitVec.ofInt 32 ((l.length : Nat) : Int) = BitVec.ofNat 32 l.length from by simp] at c1
  simp -implicitDefEqProofs only [↓runK_seq, runK_seq, ↓runK_cond, runK_cond, ↓runK_block, runK_block, ↓runK_loop, runK_loop, ↓runK_skip, runK_skip, ↓runK_ret, runK_ret, ↓runK_exit, runK_exit, ↓seqE_n, seqE_n, ↓seqE_e, seqE_e, ↓seqE_r, seqE_r, ↓blkE_n, blkE_n, ↓blkE_e, blkE_e, ↓blkE_r, blkE_r, ↓retK_n, retK_n, ↓retK_r, retK_r, ↓aCall_fn, aCall_fn, ↓bnd_s, bnd_s, ↓bnd2_s, bnd2_s, ↓onB_t, onB_t, ↓onB_f, onB_f, ↓onG_tt, onG_tt, ↓onG_tf, onG_tf, ↓onG_ft, onG_ft, ↓onG_ff, onG_ff, ↓onG_s, onG_s, ↓onT_t, onT_t, ↓aPick_t, aPick_t, ↓aPick_f, aPick_f, decide_true, decide_false, st_tmp, results1, results2, List.lookup_cons, List.lookup_nil, Nat.reduceBEq, Bool.false_eq_true, ↓reduceIte, BEq.rfl, Nat.reduceLT, Option.getD_some, Option.getD_none, ↓r47_0, r47_0, ↓r47_1, r47_1, ↓r47_2, r47_2, conv_64_32 h gen, p1, hx.len, c1, p2, s1, p3]
  rw [s2, bnd2_s]
  rw [show ([] ++ be4 (BitVec.ofInt 32 gen) ++ be4 (BitVec.ofNat 32 l.length) ++ be4 (crc l)) = head12 (BitVec.ofInt 32 gen) l from by simp [head12]]
  simp -implicitDefEqProofs only [↓runK_seq, runK_seq, ↓runK_cond, runK_cond, ↓runK_block, runK_block, ↓runK_loop, runK_loop, ↓runK_skip, runK_skip, ↓runK_ret, runK_ret, ↓runK_exit, runK_exit, ↓seqE_n, seqE_n, ↓seqE_e, seqE_e, ↓seqE_r, seqE_r, ↓blkE_n, blkE_n, ↓blkE_e, blkE_e, ↓blkE_r, blkE_r, ↓retK_n, retK_n, ↓retK_r, retK_r, ↓aCall_fn, aCall_fn, ↓bnd_s, bnd_s, ↓bnd2_s, bnd2_s, ↓onB_t, onB_t, ↓onB_f, onB_f, ↓onG_tt, onG_tt, ↓onG_tf, onG_tf, ↓onG_ft, onG_ft, ↓onG_ff, onG_ff, ↓onG_s, onG_s, ↓onT_t, onT_t, ↓aPick_t, aPick_t, ↓aPick_f, aPick_f, decide_true, decide_false, st_tmp, results1, results2, List.lookup_cons, List.lookup_nil, Nat.reduceBEq, Bool.false_eq_true, ↓reduceIte, BEq.rfl, Nat.reduceLT, Option.getD_some, Option.getD_none, p4]

theorem slice22_to (l : List AV) (k : Tok) (n : Nat) (hn : n ≤ l.length) : aSlice tab 22 (.vsl 5 l k) none (some (.int .i64 n)) none = some (.vsl 5 (l.take n) (if n = l.length then k else .none)) := by
  simp [aSlice, aBounds, aBound, cutTok, hn]
end Go.Ax

/- region.Get: what it computes. -/
namespace Go.Ax
open Go Go.Proofs

def getB (v : BitVec 32) (c : UInt8) : BitVec 32 := (v <<< 8) ||| c.toBitVec.setWidth 32
def get4 (l : List UInt8) : BitVec 32 := (l.take 4).foldl getB 0#32

theorem get4_be4 (v : BitVec 32) (r : List UInt8) : get4 (be4 v ++ r) = v := by
  simp only [get4, be4, List.cons_append, List.nil_append, List.take_succ_cons, List.take_zero, List.foldl_cons, List.foldl_nil, getB, byte]
  apply BitVec.eq_of_getLsbD_eq
  intro i hi
  obtain rfl | rfl | rfl | rfl | rfl | rfl | rfl | rfl | rfl | rfl | rfl | rfl | rfl | rfl | rfl | rfl | rfl | rfl | rfl | rfl | rfl | rfl | rfl | rfl | rfl | rfl | rfl | rfl | rfl | rfl | rfl | rfl : i = 0 ∨ i = 1 ∨ i = 2 ∨ i = 3 ∨ i = 4 ∨ i = 5 ∨ i = 6 ∨ i = 7 ∨ i = 8 ∨ i = 9 ∨ i = 10 ∨ i = 11 ∨ i = 12 ∨ i = 13 ∨ i = 14 ∨ i = 15 ∨ i = 16 ∨ i = 17 ∨ i = 18 ∨ i = 19 ∨ i = 20 ∨ i = 21 ∨ i = 22 ∨ i = 23 ∨ i = 24 ∨ i = 25 ∨ i = 26 ∨ i = 27 ∨ i = 28 ∨ i = 29 ∨ i = 30 ∨ i = 31 := by omega
  all_goals simp

/-- The first elements of a slice of bytes. -/
theorem Bs.to {x : AV} {l : List UInt8} (hx : Bs x l) (n : Nat) (hn : n ≤ l.length) : ∃ y, aSlice tab 22 x none (some (.int .i64 n)) none = some y ∧ Bs y (l.take n) := by
  rcases hx with ⟨rfl, rfl⟩ | ⟨k, rfl⟩
  · refine ⟨.nils, ?_, .inl ⟨rfl, by simp⟩⟩
    have : n = 0 := by simpa using hn
    subst this
    rfl
  · refine ⟨_, slice22_to _ k n (by simpa using hn), .inr ⟨_, by rw [List.map_take]⟩⟩

theorem loop72 (call : CallF) (md : Bool) (N : Nat) (x : AV) (l : List UInt8) (hx : Bs x l) (h : Heap) (K : Ex → List AV → Heap → Option (AV × Heap)) (r : AV × Heap) :
    ∀ (m n i : Nat) (v : BitVec 32), i + m = l.length → m < n → l.length < 2 ^ 62 →
    (∀ y z, K (.exit 0) (st 23 [(3, U32 ((l.drop i).foldl getB v)), (10, x), (11, y), (12, z), (13, .bool false)]) h = some r) →
    loopK (fun next => runK C0 call md 72 N B72_1 (seqE next K)) n (st 23 [(3, U32 v), (10, x), (11, .int .i64 l.length), (12, .int .i64 i)]) h = some r := by
  intro m
  induction m with
  | zero =>
    intro n i v him hn hl hK
    cases n with
    | zero => omega
    | succ n =>
      rw [loopK_succ]
      generalize loopK (fun next => runK C0 call md 72 N B72_1 (seqE next K)) n = L
      have e : decide ((i : Int) < (l.length : Int)) = false := by simp; omega
      simp -implicitDefEqProofs only [B72_1, ↓runK_seq, runK_seq, ↓runK_cond, runK_cond, ↓runK_block, runK_block, ↓runK_loop, runK_loop, ↓runK_skip, runK_skip, ↓runK_ret, runK_ret, ↓runK_exit, runK_exit, ↓seqE_n, seqE_n, ↓seqE_e, seqE_e, ↓seqE_r, seqE_r, ↓blkE_n, blkE_n, ↓blkE_e, blkE_e, ↓blkE_r, blkE_r, ↓retK_n, retK_n, ↓retK_r, retK_r, r72_3, bin_lss, ↓aCall_fn, aCall_fn, ↓bnd_s, bnd_s, ↓bnd2_s, bnd2_s, ↓onB_t, onB_t, ↓onB_f, onB_f, ↓onG_tt, onG_tt, ↓onG_tf, onG_tf, ↓onG_ft, onG_ft, ↓onG_ff, onG_ff, ↓onG_s, onG_s, ↓onT_t, onT_t, ↓aPick_t, aPick_t, ↓aPick_f, aPick_f, decide_true, decide_false, st_tmp, results1, results2, List.lookup_cons, List.lookup_nil, Nat.reduceBEq, Bool.false_eq_true, ↓reduceIte, BEq.rfl, Nat.reduceLT, Option.getD_some, Option.getD_none, e]
      have := hK (.int .i64 l.length) (.int .i64 i)
      rw [List.drop_eq_nil_of_le (by omega)] at this
      exact this
  | succ m ih =>
    intro n i v him hn hl hK
    cases n with
    | zero => omega
    | succ n =>
      obtain ⟨b, hb⟩ : ∃ b, l[i]? = some b := ⟨l[i], List.getElem?_eq_getElem (by omega)⟩
      have hd : l.drop i = b :: l.drop (i + 1) := by
        obtain ⟨h1, h2⟩ := List.getElem?_eq_some_iff.1 hb
        rw [← h2]; exact List.drop_eq_getElem_cons h1
      rw [loopK_succ]
      rw [hd] at hK
      have ih' := ih n (i + 1) (getB v b) (by omega) (by omega) hl hK
      generalize loopK (fun next => runK C0 call md 72 N B72_1 (seqE next K)) n = L at ih' ⊢
      have e : decide ((i : Int) < (l.length : Int)) = true := by simp; omega
      have c1 := u32_shl tab 105 v true 8 (by decide)
      simp only [Int.cast_ofNat_Int] at c1
      have e3 : IntKind.i64.wrap ((i : Int) + 1) = ((i + 1 : Nat) : Int) := by rw [wrap_i64] <;> omega
      simp -implicitDefEqProofs only [B72_1, ↓runK_seq, runK_seq, ↓runK_cond, runK_cond, ↓runK_block, runK_block, ↓runK_loop, runK_loop, ↓runK_skip, runK_skip, ↓runK_ret, runK_ret, ↓runK_exit, runK_exit, ↓seqE_n, seqE_n, ↓seqE_e, seqE_e, ↓seqE_r, seqE_r, ↓blkE_n, blkE_n, ↓blkE_e, blkE_e, ↓blkE_r, blkE_r, ↓retK_n, retK_n, ↓retK_r, retK_r, r72_3, r72_4, r72_5, r72_6, bin_lss, ↓aCall_fn, aCall_fn, ↓bnd_s, bnd_s, ↓bnd2_s, bnd2_s, ↓onB_t, onB_t, ↓onB_f, onB_f, ↓onG_tt, onG_tt, ↓onG_tf, onG_tf, ↓onG_ft, onG_ft, ↓onG_ff, onG_ff, ↓onG_s, onG_s, ↓onT_t, onT_t, ↓aPick_t, aPick_t, ↓aPick_f, aPick_f, decide_true, decide_false, st_tmp, results1, results2, List.lookup_cons, List.lookup_nil, Nat.reduceBEq, Bool.false_eq_true, ↓reduceIte, BEq.rfl, Nat.reduceLT, Option.getD_some, Option.getD_none, e, hx.idx hb, load5, conv_8_32, c1, u32_or, bin_add, e3]
      exact ih'

theorem get_ok {x : AV} {l : List UInt8} (hx : Bs x l) (hl : 4 ≤ l.length) (hl2 : l.length < 2 ^ 62) (md : Bool) (h : Heap) (k : Nat) (hk : 5 < k) : exFn C0 E0 k md 72 [x] h = some (U32 (get4 l), h) := by
  obtain ⟨k, rfl⟩ : ∃ j, k = j + 1 := ⟨k - 1, by omega⟩
  refine exFn_of e72 ?_
  rw [fnK, show ([x] ++ List.replicate (23 - [x].length) AV.undef) = st 23 [(0, x)] from rfl, s72]
  have c1 : AV.int .u32 0 = U32 0#32 := u32_lit 0 (by decide)
  have m1 : (if (4 : Int) < (l.length : Int) then (4 : Int) else (l.length : Int)) = 4 := by split <;> omega
  obtain ⟨y, hy, hby⟩ := hx.to 4 hl
  simp only [Int.cast_ofNat_Int] at hy
  have hlen : (l.take 4).length = 4 := by simp; omega
  have hly := hby.len
  simp -implicitDefEqProofs only [↓runK_seq, runK_seq, ↓runK_cond, runK_cond, ↓runK_block, runK_block, ↓runK_loop, runK_loop, ↓runK_skip, runK_skip, ↓runK_ret, runK_ret, ↓runK_exit, runK_exit, ↓seqE_n, seqE_n, ↓seqE_e, seqE_e, ↓seqE_r, seqE_r, ↓blkE_n, blkE_n, ↓blkE_e, blkE_e, ↓blkE_r, blkE_r, ↓retK_n, retK_n, ↓retK_r, retK_r, ↓aCall_fn, aCall_fn, ↓bnd_s, bnd_s, ↓bnd2_s, bnd2_s, ↓onB_t, onB_t, ↓onB_f, onB_f, ↓onG_tt, onG_tt, ↓onG_tf, onG_tf, ↓onG_ft, onG_ft, ↓onG_ff, onG_ff, ↓onG_s, onG_s, ↓onT_t, onT_t, ↓aPick_t, aPick_t, ↓aPick_f, aPick_f, decide_true, decide_false, st_tmp, results1, results2, List.lookup_cons, List.lookup_nil, Nat.reduceBEq, Bool.false_eq_true, ↓reduceIte, BEq.rfl, Nat.reduceLT, Option.getD_some, Option.getD_none, r72_0, r72_1, r72_2, hx.len, c1, min2_i64, m1, hy, hly]
  refine loop72 _ md k y _ hby h _ _ 4 k 0 _ (by omega) (by omega) (by omega) fun y z => ?_
  simp -implicitDefEqProofs only [↓runK_seq, runK_seq, ↓runK_cond, runK_cond, ↓runK_block, runK_block, ↓runK_loop, runK_loop, ↓runK_skip, runK_skip, ↓runK_ret, runK_ret, ↓runK_exit, runK_exit, ↓seqE_n, seqE_n, ↓seqE_e, seqE_e, ↓seqE_r, seqE_r, ↓blkE_n, blkE_n, ↓blkE_e, blkE_e, ↓blkE_r, blkE_r, ↓retK_n, retK_n, ↓retK_r, retK_r, ↓aCall_fn, aCall_fn, ↓bnd_s, bnd_s, ↓bnd2_s, bnd2_s, ↓onB_t, onB_t, ↓onB_f, onB_f, ↓onG_tt, onG_tt, ↓onG_tf, onG_tf, ↓onG_ft, onG_ft, ↓onG_ff, onG_ff, ↓onG_s, onG_s, ↓onT_t, onT_t, ↓aPick_t, aPick_t, ↓aPick_f, aPick_f, decide_true, decide_false, st_tmp, results1, results2, List.lookup_cons, List.lookup_nil, Nat.reduceBEq, Bool.false_eq_true, ↓reduceIte, BEq.rfl, Nat.reduceLT, Option.getD_some, Option.getD_none, r72_7, List.drop_zero]
  rfl
end Go.Ax

/- What the regions of some functions hand on. Printed by a program of mine (gen.py). -/
set_option linter.unusedVariables false
namespace Go.Ax
open Go Go.Proofs
/-! ### bytes.Equal -/
noncomputable def O73 (i : Nat) : Array Oper := opsOf i (bodyOf Try.f73)
theorem s73 : bodyOf Try.f73 = (.seq (.region 0 (O73 0) false) (.seq (.region 1 (O73 1) false) .ret)) := by kernel_rfl
theorem e73 : E0 73 = some ⟨10, [4], bodyOf Try.f73⟩ := by kernel_rfl
theorem r73_0 {β : Type} (call : CallF) (md : Bool) (n : Nat) (k : Ex → List AV → Heap → Option β) (x0 x1 : AV) (h : Heap) :
    runK C0 call md 73 n (.region 0 (O73 0) false) k (st 10 [(0, x0), (1, x1)]) h =
    k .normal (st 10 [(0, x0), (1, x1)]) h
  := by kernel_rfl
theorem r73_1 {β : Type} (call : CallF) (md : Bool) (n : Nat) (k : Ex → List AV → Heap → Option β) (x0 x1 : AV) (h : Heap) :
    runK C0 call md 73 n (.region 1 (O73 1) false) k (st 10 [(0, x0), (1, x1)]) h =
    bnd (aConv tab 22 9 x0 h) fun v1 =>
    bnd (aConv tab 22 9 x1 h) fun v2 =>
    bnd (aBinC tab .eql 9 v1 v2 false) fun v3 =>
    k .normal (st 10 [(4, v3)]) h
  := by kernel_rfl
end Go.Ax

/- What the regions of some functions hand on. Printed by a program of mine (gen.py). -/
set_option linter.unusedVariables false
namespace Go.Ax
open Go Go.Proofs
/-! ### bytes.Count -/
noncomputable def O74 (i : Nat) : Array Oper := opsOf i (bodyOf Try.f74)
noncomputable def B74_1 : Code := (.block 1 (.seq (.region 6 (O74 6) false) (.seq (.seq (.region 7 (O74 7) false) (.cond (Go.Operand.tmp 25) (.seq (.region 8 (O74 8) false) .ret) .skip)) (.seq (.region 9 (O74 9) false) (.region 10 (O74 10) false)))))
theorem s74 : bodyOf Try.f74 = (.seq (.region 0 (O74 0) false) (.seq (.seq (.region 1 (O74 1) false) (.cond (Go.Operand.tmp 9) (.seq (.region 2 (O74 2) false) .ret) .skip)) (.seq (.seq (.region 3 (O74 3) false) (.cond (Go.Operand.tmp 15) (.seq (.region 4 (O74 4) false) .ret) .skip)) (.seq (.region 5 (O74 5) false) (.block 0 (.loop B74_1)))))) := by kernel_rfl
theorem e74 : E0 74 = some ⟨35, [4], bodyOf Try.f74⟩ := by kernel_rfl
theorem r74_0 {β : Type} (call : CallF) (md : Bool) (n : Nat) (k : Ex → List AV → Heap → Option β) (x0 x1 : AV) (h : Heap) :
    runK C0 call md 74 n (.region 0 (O74 0) false) k (st 35 [(0, x0), (1, x1)]) h =
    k .normal (st 35 [(0, x0), (1, x1)]) h
  := by kernel_rfl
theorem r74_1 {β : Type} (call : CallF) (md : Bool) (n : Nat) (k : Ex → List AV → Heap → Option β) (x0 x1 : AV) (h : Heap) :
    runK C0 call md 74 n (.region 1 (O74 1) false) k (st 35 [(0, x0), (1, x1)]) h =
    bnd (aLen tab 22 x1) fun v1 =>
    bnd (aBinC tab .eql 3 v1 (.int .i64 0) true) fun v2 =>
    k .normal (st 35 [(0, x0), (1, x1), (9, v2)]) h
  := by kernel_rfl
theorem r74_2 {β : Type} (call : CallF) (md : Bool) (n : Nat) (k : Ex → List AV → Heap → Option β) (x0 x1 x9 : AV) (h : Heap) :
    runK C0 call md 74 n (.region 2 (O74 2) false) k (st 35 [(0, x0), (1, x1), (9, x9)]) h =
    bnd2 (aCall call md (.fn (.func 77) []) [x0] h) fun v1 h2 =>
    bnd (aBinC tab .add 3 v1 (.int .i64 1) true) fun v3 =>
    k .normal (st 35 [(4, v3)]) h2
  := by kernel_rfl
theorem r74_3 {β : Type} (call : CallF) (md : Bool) (n : Nat) (k : Ex → List AV → Heap → Option β) (x0 x1 x9 : AV) (h : Heap) :
    runK C0 call md 74 n (.region 3 (O74 3) false) k (st 35 [(0, x0), (1, x1), (9, x9)]) h =
    bnd (aLen tab 22 x1) fun v1 =>
    bnd (aBinC tab .eql 3 v1 (.int .i64 1) true) fun v2 =>
    k .normal (st 35 [(0, x0), (1, x1), (15, v2)]) h
  := by kernel_rfl
theorem r74_4 {β : Type} (call : CallF) (md : Bool) (n : Nat) (k : Ex → List AV → Heap → Option β) (x0 x1 x15 : AV) (h : Heap) :
    runK C0 call md 74 n (.region 4 (O74 4) false) k (st 35 [(0, x0), (1, x1), (15, x15)]) h =
    bnd (aIndexAddr tab 22 x1 (.int .i64 0)) fun v1 =>
    bnd (aLoad tab 5 v1 h) fun v2 =>
    bnd2 (aCall call md (.fn (.func 78) []) [x0, v2] h) fun v3 h4 =>
    k .normal (st 35 [(4, v3)]) h4
  := by kernel_rfl
theorem r74_5 {β : Type} (call : CallF) (md : Bool) (n : Nat) (k : Ex → List AV → Heap → Option β) (x0 x1 x15 : AV) (h : Heap) :
    runK C0 call md 74 n (.region 5 (O74 5) false) k (st 35 [(0, x0), (1, x1), (15, x15)]) h =
    k .normal (st 35 [(0, x0), (1, x1), (5, (.int .i64 0))]) h
  := by kernel_rfl
theorem r74_6 {β : Type} (call : CallF) (md : Bool) (n : Nat) (k : Ex → List AV → Heap → Option β) (x0 x1 x5 : AV) (h : Heap) :
    runK C0 call md 74 n (.region 6 (O74 6) false) k (st 35 [(0, x0), (1, x1), (5, x5)]) h =
    bnd2 (aCall call md (.fn (.func 79) []) [x0, x1] h) fun v1 h2 =>
    k .normal (st 35 [(0, x0), (1, x1), (5, x5), (6, v1)]) h2
  := by kernel_rfl
theorem r74_7 {β : Type} (call : CallF) (md : Bool) (n : Nat) (k : Ex → List AV → Heap → Option β) (x0 x1 x5 x6 : AV) (h : Heap) :
    runK C0 call md 74 n (.region 7 (O74 7) false) k (st 35 [(0, x0), (1, x1), (5, x5), (6, x6)]) h =
    bnd (aBinC tab .eql 3 x6 (.int .i64 (-1)) true) fun v1 =>
    k .normal (st 35 [(0, x0), (1, x1), (5, x5), (6, x6), (25, v1)]) h
  := by kernel_rfl
theorem r74_8 {β : Type} (call : CallF) (md : Bool) (n : Nat) (k : Ex → List AV → Heap → Option β) (x0 x1 x5 x6 x25 : AV) (h : Heap) :
    runK C0 call md 74 n (.region 8 (O74 8) false) k (st 35 [(0, x0), (1, x1), (5, x5), (6, x6), (25, x25)]) h =
    k .normal (st 35 [(4, x5)]) h
  := by kernel_rfl
theorem r74_9 {β : Type} (call : CallF) (md : Bool) (n : Nat) (k : Ex → List AV → Heap → Option β) (x0 x1 x5 x6 x25 : AV) (h : Heap) :
    runK C0 call md 74 n (.region 9 (O74 9) false) k (st 35 [(0, x0), (1, x1), (5, x5), (6, x6), (25, x25)]) h =
    bnd (aBinC tab .add 3 x5 (.int .i64 1) true) fun v1 =>
    k .normal (st 35 [(0, x0), (1, x1), (5, v1), (6, x6)]) h
  := by kernel_rfl
theorem r74_10 {β : Type} (call : CallF) (md : Bool) (n : Nat) (k : Ex → List AV → Heap → Option β) (x0 x1 x5 x6 : AV) (h : Heap) :
    runK C0 call md 74 n (.region 10 (O74 10) false) k (st 35 [(0, x0), (1, x1), (5, x5), (6, x6)]) h =
    bnd (aLen tab 22 x1) fun v1 =>
    bnd (aBinC tab .add 3 x6 v1 false) fun v2 =>
    bnd (aSlice tab 22 x0 (some v2) none none) fun v3 =>
    k .normal (st 35 [(0, v3), (1, x1), (5, x5)]) h
  := by kernel_rfl
end Go.Ax

/- What the regions of some functions hand on. Printed by a program of mine (gen.py). -/
set_option linter.unusedVariables false
namespace Go.Ax
open Go Go.Proofs
/-! ### interregnum/region.zero -/
noncomputable def O51 (i : Nat) : Array Oper := opsOf i (bodyOf Try.f51)
theorem s51 : bodyOf Try.f51 = (.seq (.region 0 (O51 0) false) (.seq (.region 1 (O51 1) false) .ret)) := by kernel_rfl
theorem e51 : E0 51 = some ⟨9, [2], bodyOf Try.f51⟩ := by kernel_rfl
theorem r51_0 {β : Type} (call : CallF) (md : Bool) (n : Nat) (k : Ex → List AV → Heap → Option β) (x0 : AV) (h : Heap) :
    runK C0 call md 51 n (.region 0 (O51 0) false) k (st 9 [(0, x0)]) h =
    k .normal (st 9 [(0, x0)]) h
  := by kernel_rfl
theorem r51_1 {β : Type} (call : CallF) (md : Bool) (n : Nat) (k : Ex → List AV → Heap → Option β) (x0 : AV) (h : Heap) :
    runK C0 call md 51 n (.region 1 (O51 1) false) k (st 9 [(0, x0)]) h =
    bnd (aLit tab 22 1 [(0, (.int .u8 0))]) fun v1 =>
    bnd2 (aCall call md (.fn (.func 74) []) [x0, v1] h) fun v2 h3 =>
    bnd (aLen tab 22 x0) fun v4 =>
    bnd (aBinC tab .eql 3 v2 v4 false) fun v5 =>
    k .normal (st 9 [(2, v5)]) h3
  := by kernel_rfl
end Go.Ax

/- bytes.Equal, bytes.Count of one byte, zero: what they compute. -/
namespace Go.Ax
open Go Go.Proofs

theorem bytesOf_U8 : ∀ (l : List UInt8), bytesOf (l.map U8) = some l
  | [] => rfl
  | b :: l => by simp [bytesOf, U8, bytesOf_U8 l]

theorem Bs.elems {x : AV} {l : List UInt8} (hx : Bs x l) (h : Heap) : (slElems h x).bind bytesOf = some l := by
  rcases hx with ⟨rfl, rfl⟩ | ⟨k, rfl⟩
  · rfl
  · simp [slElems, bytesOf_U8]

theorem Bs.str {x : AV} {l : List UInt8} (hx : Bs x l) (h : Heap) : aConv tab 22 9 x h = some (.str ⟨l.toArray⟩) := by
  have := hx.elems h
  simp only [aConv, td22, td9, td5, this, if_true]

theorem str_eql (T : Tab) (t : Ty) (a b : ByteArray) (c : Bool) : aBinC T .eql t (.str a) (.str b) c = some (.bool (a.toList == b.toList)) := by
  simp [aBinC, aBin, Go.binOp, Op.stringOp, ofPure, pure]

theorem toList_mk (l : List UInt8) : (⟨l.toArray⟩ : ByteArray).toList = l := by
  rw [ByteArray.toList_eq]

theorem equal_ok {x y : AV} {l m : List UInt8} (hx : Bs x l) (hy : Bs y m) (md : Bool) (h : Heap) (k : Nat) : exFn C0 E0 (k + 1) md 73 [x, y] h = some (.bool (decide (l = m)), h) := by
  refine exFn_of e73 ?_
  rw [fnK, show ([x, y] ++ List.replicate (10 - [x, y].length) AV.undef) = st 10 [(0, x), (1, y)] from rfl, s73]
  simp -implicitDefEqProofs only [↓runK_seq, runK_seq, ↓runK_cond, runK_cond, ↓runK_block, runK_block, ↓runK_loop, runK_loop, ↓runK_skip, runK_skip, ↓runK_ret, runK_ret, ↓runK_exit, runK_exit, ↓seqE_n, seqE_n, ↓seqE_e, seqE_e, ↓seqE_r, seqE_r, ↓blkE_n, blkE_n, ↓blkE_e, blkE_e, ↓blkE_r, blkE_r, ↓retK_n, retK_n, ↓retK_r, retK_r, ↓aCall_fn, aCall_fn, ↓bnd_s, bnd_s, ↓bnd2_s, bnd2_s, ↓onB_t, onB_t, ↓onB_f, onB_f, ↓onG_tt, onG_tt, ↓onG_tf, onG_tf, ↓onG_ft, onG_ft, ↓onG_ff, onG_ff, ↓onG_s, onG_s, ↓onT_t, onT_t, ↓aPick_t, aPick_t, ↓aPick_f, aPick_f, decide_true, decide_false, st_tmp, results1, results2, List.lookup_cons, List.lookup_nil, Nat.reduceBEq, Bool.false_eq_true, ↓reduceIte, BEq.rfl, Nat.reduceLT, Option.getD_some, Option.getD_none, ↓r73_0, r73_0, ↓r73_1, r73_1, hx.str h, hy.str h, str_eql, toList_mk]
  rw [show (l == m) = decide (l = m) from by by_cases e : l = m <;> simp [e]]

theorem count78 {x : AV} {l : List UInt8} (hx : Bs x l) (b : UInt8) (md : Bool) (h : Heap) (k : Nat) : exFn C0 E0 (k + 1) md 78 [x, U8 b] h = some (.int .i64 (l.count b : Nat), h) := by
  rw [exFn_cnt e78 rfl]
  simp only [aCount, U8, hx.elems h]
  simp

theorem lit22_1 (a : AV) (ha : fits tab 5 a = true) : aLit tab 22 1 [(0, a)] = some (.vsl 5 [a] .exact) := by
  simp [aLit, aElems, aFill, ha]

theorem count_ok {x : AV} {l : List UInt8} (hx : Bs x l) (md : Bool) (h : Heap) (b : UInt8) (tk : Tok) (k : Nat) : exFn C0 E0 (k + 2) md 74 [x, .vsl 5 [U8 b] tk] h = some (.int .i64 (l.count b : Nat), h) := by
  refine exFn_of e74 ?_
  rw [fnK, show ([x, .vsl 5 [U8 b] tk] ++ List.replicate (35 - [x, .vsl 5 [U8 b] tk].length) AV.undef) = st 35 [(0, x), (1, .vsl 5 [U8 b] tk)] from rfl, s74]
  have i0 : aIndexAddr tab 22 (.vsl 5 [U8 b] tk) (.int .i64 0) = some (.vptr 5 (U8 b)) := by simp [aIndexAddr]
  have d1 : decide (((([U8 b] : List AV).length : Nat) : Int) = 0) = false := by simp
  have d2 : decide (((([U8 b] : List AV).length : Nat) : Int) = 1) = true := by simp
  simp -implicitDefEqProofs only [↓runK_seq, runK_seq, ↓runK_cond, runK_cond, ↓runK_block, runK_block, ↓runK_loop, runK_loop, ↓runK_skip, runK_skip, ↓runK_ret, runK_ret, ↓runK_exit, runK_exit, ↓seqE_n, seqE_n, ↓seqE_e, seqE_e, ↓seqE_r, seqE_r, ↓blkE_n, blkE_n, ↓blkE_e, blkE_e, ↓blkE_r, blkE_r, ↓retK_n, retK_n, ↓retK_r, retK_r, ↓aCall_fn, aCall_fn, ↓bnd_s, bnd_s, ↓bnd2_s, bnd2_s, ↓onB_t, onB_t, ↓onB_f, onB_f, ↓onG_tt, onG_tt, ↓onG_tf, onG_tf, ↓onG_ft, onG_ft, ↓onG_ff, onG_ff, ↓onG_s, onG_s, ↓onT_t, onT_t, ↓aPick_t, aPick_t, ↓aPick_f, aPick_f, decide_true, decide_false, st_tmp, results1, results2, List.lookup_cons, List.lookup_nil, Nat.reduceBEq, Bool.false_eq_true, ↓reduceIte, BEq.rfl, Nat.reduceLT, Option.getD_some, Option.getD_none, ↓r74_0, r74_0, ↓r74_1, r74_1, ↓r74_2, r74_2, ↓r74_3, r74_3, ↓r74_4, r74_4, ↓r74_5, r74_5, ↓r74_6, r74_6, ↓r74_7, r74_7, ↓r74_8, r74_8, ↓r74_9, r74_9, ↓r74_10, r74_10, len22, bin_eql, d1, d2, i0, load5, count78 hx]

theorem zero_ok {x : AV} {l : List UInt8} (hx : Bs x l) (md : Bool) (h : Heap) (k : Nat) : exFn C0 E0 (k + 3) md 51 [x] h = some (.bool (l.all (· == 0)), h) := by
  refine exFn_of e51 ?_
  rw [fnK, show ([x] ++ List.replicate (9 - [x].length) AV.undef) = st 9 [(0, x)] from rfl, s51]
  have c0 : AV.int .u8 0 = U8 0 := rfl
  have e : decide (((l.count 0 : Nat) : Int) = ((l.length : Nat) : Int)) = l.all (· == 0) := by
    rw [Bool.eq_iff_iff]
    simp only [decide_eq_true_eq, Int.natCast_inj, List.all_eq_true, List.count_eq_length, beq_iff_eq]
    exact ⟨fun h x hx => (h x hx).symm, fun h x hx => (h x hx).symm⟩
  simp -implicitDefEqProofs only [↓runK_seq, runK_seq, ↓runK_cond, runK_cond, ↓runK_block, runK_block, ↓runK_loop, runK_loop, ↓runK_skip, runK_skip, ↓runK_ret, runK_ret, ↓runK_exit, runK_exit, ↓seqE_n, seqE_n, ↓seqE_e, seqE_e, ↓seqE_r, seqE_r, ↓blkE_n, blkE_n, ↓blkE_e, blkE_e, ↓blkE_r, blkE_r, ↓retK_n, retK_n, ↓retK_r, retK_r, ↓aCall_fn, aCall_fn, ↓bnd_s, bnd_s, ↓bnd2_s, bnd2_s, ↓onB_t, onB_t, ↓onB_f, onB_f, ↓onG_tt, onG_tt, ↓onG_tf, onG_tf, ↓onG_ft, onG_ft, ↓onG_ff, onG_ff, ↓onG_s, onG_s, ↓onT_t, onT_t, ↓aPick_t, aPick_t, ↓aPick_f, aPick_f, decide_true, decide_false, st_tmp, results1, results2, List.lookup_cons, List.lookup_nil, Nat.reduceBEq, Bool.false_eq_true, ↓reduceIte, BEq.rfl, Nat.reduceLT, Option.getD_some, Option.getD_none, ↓r51_0, r51_0, ↓r51_1, r51_1, c0, lit22_1 (U8 0) rfl, count_ok hx, hx.len, bin_eql, e]
end Go.Ax

/- What the regions of some functions hand on. Printed by a program of mine (gen.py). -/
set_option linter.unusedVariables false
namespace Go.Ax
open Go Go.Proofs
/-! ### interregnum/sector.New -/
noncomputable def O13 (i : Nat) : Array Oper := opsOf i (bodyOf Try.f13)
theorem s13 : bodyOf Try.f13 = (.seq (.region 0 (O13 0) false) (.seq (.region 1 (O13 1) false) .ret)) := by kernel_rfl
theorem e13 : E0 13 = some ⟨9, [2], bodyOf Try.f13⟩ := by kernel_rfl
theorem r13_0 {β : Type} (call : CallF) (md : Bool) (n : Nat) (k : Ex → List AV → Heap → Option β) (x0 : AV) (h : Heap) :
    runK C0 call md 13 n (.region 0 (O13 0) false) k (st 9 [(0, x0)]) h =
    k .normal (st 9 [(0, x0)]) h
  := by kernel_rfl
theorem r13_1 {β : Type} (call : CallF) (md : Bool) (n : Nat) (k : Ex → List AV → Heap → Option β) (x0 : AV) (h : Heap) :
    runK C0 call md 13 n (.region 1 (O13 1) false) k (st 9 [(0, x0)]) h =
    bnd (aMax [x0, (.int .i64 0)]) fun v1 =>
    bnd (aMin [v1, (.int .i64 1024)]) fun v2 =>
    bnd2 (aMake tab 81 v2 v2 h) fun v3 h4 =>
    bnd (aBuild tab 84 [(0, v3), (2, (.int .i64 (-1)))]) fun v5 =>
    bnd2 (aBoxv tab 84 v5 h4) fun v6 h7 =>
    k .normal (st 9 [(2, v6)]) h7
  := by kernel_rfl
end Go.Ax

/- What the regions of some functions hand on. Printed by a program of mine (gen.py). -/
set_option linter.unusedVariables false
namespace Go.Ax
open Go Go.Proofs
/-! ### (*interregnum/sector.Disk).Write -/
noncomputable def O17 (i : Nat) : Array Oper := opsOf i (bodyOf Try.f17)
theorem s17 : bodyOf Try.f17 = (.seq (.region 0 (O17 0) false) (.seq (.seq (.region 1 (O17 1) false) (.cond (Go.Operand.tmp 16) (.seq (.region 2 (O17 2) false) .ret) .skip)) (.seq (.seq (.region 3 (O17 3) false) (.cond (Go.Operand.tmp 19) (.seq (.region 4 (O17 4) false) .ret) .skip)) (.seq (.region 5 (O17 5) false) (.seq (.region 6 (O17 6) false) (.seq (.region 7 (O17 7) true) (.seq (.region 8 (O17 8) false) .ret))))))) := by kernel_rfl
theorem e17 : E0 17 = some ⟨36, [6], bodyOf Try.f17⟩ := by kernel_rfl
theorem r17_0 {β : Type} (call : CallF) (md : Bool) (n : Nat) (k : Ex → List AV → Heap → Option β) (x0 x1 x2 : AV) (h : Heap) :
    runK C0 call md 17 n (.region 0 (O17 0) false) k (st 36 [(0, x0), (1, x1), (2, x2)]) h =
    k .normal (st 36 [(0, x0), (1, x1), (2, x2)]) h
  := by kernel_rfl
def J17_1_2 {β : Type} (call : CallF) (md : Bool) (k : Ex → List AV → Heap → Option β) (x0 x1 x2 x12 x15 : AV) (h : Heap) : Option β :=
    bnd (aPick x12 (.bool true) x15) fun v1 =>
    k .normal (st 36 [(0, x0), (1, x1), (2, x2), (16, v1)]) h

theorem j17_1_2 {β : Type} (call : CallF) (md : Bool) (k : Ex → List AV → Heap → Option β) (x0 x1 x2 x8 x9 x10 x11 x12 x13 x14 x15 : AV) (h : Heap) :
    opsK C0 call md 17 (O17 1) ((O17 1).toList.drop 8) (st 36 [(0, x0), (1, x1), (2, x2), (8, x8), (9, x9), (10, x10), (11, x11), (12, x12), (13, x13), (14, x14), (15, x15)]) h (fun tm h => k .normal (clr (C0.keep 17 1) tm) h) = J17_1_2 call md k x0 x1 x2 x12 x15 h := by kernel_rfl
def J17_1_1 {β : Type} (call : CallF) (md : Bool) (k : Ex → List AV → Heap → Option β) (x0 x1 x2 x12 : AV) (h : Heap) : Option β :=
    onG false x12 (
      bnd (aLen tab 22 x2) fun v3 =>
      bnd (aBinC tab .gtr 3 v3 (.int .i64 64) true) fun v4 =>
      J17_1_2 call md k x0 x1 x2 x12 v4 h) (
      J17_1_2 call md k x0 x1 x2 x12 .skip h)

theorem g17_1_1 {β : Type} (call : CallF) (md : Bool) (kk : List AV → Heap → Option β) (x0 x1 x2 x8 x9 x10 x11 x12 : AV) (h : Heap) :
    opsK C0 call md 17 (O17 1) (((O17 1).toList.drop 5).take 3) (st 36 [(0, x0), (1, x1), (2, x2), (8, x8), (9, x9), (10, x10), (11, x11), (12, x12)]) h kk =
    onG false x12 (
      bnd (aLen tab 22 x2) fun v5 =>
      bnd (aBinC tab .gtr 3 v5 (.int .i64 64) true) fun v6 =>
      kk (st 36 [(0, x0), (1, x1), (2, x2), (8, x8), (9, x9), (10, x10), (11, x11), (12, x12), (13, x2), (14, v5), (15, v6)]) h) (
      kk (st 36 [(0, x0), (1, x1), (2, x2), (8, x8), (9, x9), (10, x10), (11, x11), (12, x12), (13, .skip), (14, .skip), (15, .skip)]) h)
  := by cases x12 with | bool b => (cases b <;> kernel_rfl) | _ => kernel_rfl
theorem j17_1_1 {β : Type} (call : CallF) (md : Bool) (k : Ex → List AV → Heap → Option β) (x0 x1 x2 x8 x9 x10 x11 x12 : AV) (h : Heap) :
    opsK C0 call md 17 (O17 1) ((O17 1).toList.drop 5) (st 36 [(0, x0), (1, x1), (2, x2), (8, x8), (9, x9), (10, x10), (11, x11), (12, x12)]) h (fun tm h => k .normal (clr (C0.keep 17 1) tm) h) = J17_1_1 call md k x0 x1 x2 x12 h := by
  have e : ((O17 1).toList.drop 5) = ((O17 1).toList.drop 5).take 3 ++ (O17 1).toList.drop 8 := by kernel_rfl
  rw [show opsK C0 call md 17 (O17 1) ((O17 1).toList.drop 5) = opsK C0 call md 17 (O17 1) (((O17 1).toList.drop 5).take 3 ++ (O17 1).toList.drop 8) from congrArg _ e]
  rw [opsK_append, g17_1_1]
  simp only [j17_1_2]
  rfl
def J17_1_0 {β : Type} (call : CallF) (md : Bool) (k : Ex → List AV → Heap → Option β) (x0 x1 x2 : AV) (h : Heap) : Option β :=
    bnd2 (aCall call md (.fn (.func 49) []) [x0, x1] h) fun v7 h8 =>
    bnd (aUn .not v7) fun v9 =>
    J17_1_1 call md k x0 x1 x2 v9 h8

theorem g17_1_0 {β : Type} (call : CallF) (md : Bool) (kk : List AV → Heap → Option β) (x0 x1 x2 : AV) (h : Heap) :
    opsK C0 call md 17 (O17 1) ((O17 1).toList.take 5) (st 36 [(0, x0), (1, x1), (2, x2)]) h kk =
    bnd2 (aCall call md (.fn (.func 49) []) [x0, x1] h) fun v10 h11 =>
    bnd (aUn .not v10) fun v12 =>
    kk (st 36 [(0, x0), (1, x1), (2, x2), (8, x0), (9, x1), (10, v10), (11, v12), (12, v12)]) h11
  := by kernel_rfl
theorem j17_1_0 {β : Type} (call : CallF) (md : Bool) (k : Ex → List AV → Heap → Option β) (x0 x1 x2 : AV) (h : Heap) :
    opsK C0 call md 17 (O17 1) (O17 1).toList (st 36 [(0, x0), (1, x1), (2, x2)]) h (fun tm h => k .normal (clr (C0.keep 17 1) tm) h) = J17_1_0 call md k x0 x1 x2 h := by
  have e : (O17 1).toList = (O17 1).toList.take 5 ++ (O17 1).toList.drop 5 := by kernel_rfl
  rw [show opsK C0 call md 17 (O17 1) (O17 1).toList = opsK C0 call md 17 (O17 1) ((O17 1).toList.take 5 ++ (O17 1).toList.drop 5) from congrArg _ e]
  rw [opsK_append, g17_1_0]
  simp only [j17_1_1]
  rfl
theorem r17_1 {β : Type} (call : CallF) (md : Bool) (n : Nat) (k : Ex → List AV → Heap → Option β) (x0 x1 x2 : AV) (h : Heap) :
    runK C0 call md 17 n (.region 1 (O17 1) false) k (st 36 [(0, x0), (1, x1), (2, x2)]) h = J17_1_0 call md k x0 x1 x2 h := (runK_region C0 call md 17 n 1 (O17 1) k (st 36 [(0, x0), (1, x1), (2, x2)]) h).trans (j17_1_0 call md k x0 x1 x2 h)
theorem r17_2 {β : Type} (call : CallF) (md : Bool) (n : Nat) (k : Ex → List AV → Heap → Option β) (x0 x1 x2 x16 : AV) (h : Heap) :
    runK C0 call md 17 n (.region 2 (O17 2) false) k (st 36 [(0, x0), (1, x1), (2, x2), (16, x16)]) h =
    k .normal (st 36 [(6, (.int .i64 1))]) h
  := by kernel_rfl
theorem r17_3 {β : Type} (call : CallF) (md : Bool) (n : Nat) (k : Ex → List AV → Heap → Option β) (x0 x1 x2 x16 : AV) (h : Heap) :
    runK C0 call md 17 n (.region 3 (O17 3) false) k (st 36 [(0, x0), (1, x1), (2, x2), (16, x16)]) h =
    bnd2 (aCall call md (.fn (.func 50) []) [x0] h) fun v1 h2 =>
    bnd (aUn .not v1) fun v3 =>
    k .normal (st 36 [(0, x0), (1, x1), (2, x2), (19, v3)]) h2
  := by kernel_rfl
theorem r17_4 {β : Type} (call : CallF) (md : Bool) (n : Nat) (k : Ex → List AV → Heap → Option β) (x0 x1 x2 x19 : AV) (h : Heap) :
    runK C0 call md 17 n (.region 4 (O17 4) false) k (st 36 [(0, x0), (1, x1), (2, x2), (19, x19)]) h =
    k .normal (st 36 [(6, (.int .i64 4))]) h
  := by kernel_rfl
theorem r17_5 {β : Type} (call : CallF) (md : Bool) (n : Nat) (k : Ex → List AV → Heap → Option β) (x0 x1 x2 x19 : AV) (h : Heap) :
    runK C0 call md 17 n (.region 5 (O17 5) false) k (st 36 [(0, x0), (1, x1), (2, x2), (19, x19)]) h =
    bnd (aBuild tab 91 [(0, x1)]) fun v1 =>
    bnd2 (aAlloc tab 91 h) fun v2 h3 =>
    bnd (aStore tab 91 v2 v1 h3) fun h4 =>
    k .normal (st 36 [(0, x0), (2, x2), (7, v2)]) h4
  := by kernel_rfl
theorem r17_6 {β : Type} (call : CallF) (md : Bool) (n : Nat) (k : Ex → List AV → Heap → Option β) (x0 x2 x7 : AV) (h : Heap) :
    runK C0 call md 17 n (.region 6 (O17 6) false) k (st 36 [(0, x0), (2, x2), (7, x7)]) h =
    bnd (aFieldAddr tab 91 x7 1) fun v1 =>
    bnd (aSlice tab 89 v1 none none none) fun v2 =>
    bnd2 (aCpy tab 22 v2 x2 h) fun v3 h4 =>
    k .normal (st 36 [(0, x0), (7, x7)]) h4
  := by kernel_rfl
theorem r17_7 {β : Type} (call : CallF) (md : Bool) (n : Nat) (k : Ex → List AV → Heap → Option β) (x0 x7 : AV) (h : Heap) :
    runK C0 call md 17 n (.region 7 (O17 7) true) k (st 36 [(0, x0), (7, x7)]) h =
    bnd (aNil x0) fun v1 =>
    bnd (aFieldAddr tab 84 v1 1) fun v2 =>
    bnd (aLoad tab 82 v2 h) fun v3 =>
    bnd (aLoad tab 91 x7 h) fun v4 =>
    bnd (aLit tab 82 1 [(0, v4)]) fun v5 =>
    bnd2 (aApp tab 82 82 md v3 v5 h) fun v6 h7 =>
    bnd (aNil x0) fun v8 =>
    bnd (aFieldAddr tab 84 v8 1) fun v9 =>
    bnd (aStore tab 82 v9 v6 h7) fun h10 =>
    k .normal (st 36 []) h10
  := by kernel_rfl
theorem r17_8 {β : Type} (call : CallF) (md : Bool) (n : Nat) (k : Ex → List AV → Heap → Option β) (h : Heap) :
    runK C0 call md 17 n (.region 8 (O17 8) false) k (st 36 []) h =
    k .normal (st 36 [(6, (.int .i64 0))]) h
  := by kernel_rfl
end Go.Ax

/- What the regions of some functions hand on. Printed by a program of mine (gen.py). -/
set_option linter.unusedVariables false
namespace Go.Ax
open Go Go.Proofs
/-! ### (*interregnum/sector.Disk).Len -/
noncomputable def O46 (i : Nat) : Array Oper := opsOf i (bodyOf Try.f46)
theorem s46 : bodyOf Try.f46 = (.seq (.region 0 (O46 0) false) (.seq (.seq (.region 1 (O46 1) false) (.cond (Go.Operand.tmp 4) (.seq (.region 2 (O46 2) false) .ret) .skip)) (.seq (.region 3 (O46 3) false) .ret))) := by kernel_rfl
theorem e46 : E0 46 = some ⟨10, [2], bodyOf Try.f46⟩ := by kernel_rfl
theorem r46_0 {β : Type} (call : CallF) (md : Bool) (n : Nat) (k : Ex → List AV → Heap → Option β) (x0 : AV) (h : Heap) :
    runK C0 call md 46 n (.region 0 (O46 0) false) k (st 10 [(0, x0)]) h =
    k .normal (st 10 [(0, x0)]) h
  := by kernel_rfl
theorem r46_1 {β : Type} (call : CallF) (md : Bool) (n : Nat) (k : Ex → List AV → Heap → Option β) (x0 : AV) (h : Heap) :
    runK C0 call md 46 n (.region 1 (O46 1) false) k (st 10 [(0, x0)]) h =
    bnd (aBinC tab .eql 25 x0 .nilp true) fun v1 =>
    k .normal (st 10 [(0, x0), (4, v1)]) h
  := by kernel_rfl
theorem r46_2 {β : Type} (call : CallF) (md : Bool) (n : Nat) (k : Ex → List AV → Heap → Option β) (x0 x4 : AV) (h : Heap) :
    runK C0 call md 46 n (.region 2 (O46 2) false) k (st 10 [(0, x0), (4, x4)]) h =
    k .normal (st 10 [(2, (.int .i64 0))]) h
  := by kernel_rfl
theorem r46_3 {β : Type} (call : CallF) (md : Bool) (n : Nat) (k : Ex → List AV → Heap → Option β) (x0 x4 : AV) (h : Heap) :
    runK C0 call md 46 n (.region 3 (O46 3) false) k (st 10 [(0, x0), (4, x4)]) h =
    bnd (aNil x0) fun v1 =>
    bnd (aFieldAddr tab 84 v1 0) fun v2 =>
    bnd (aLoad tab 81 v2 h) fun v3 =>
    bnd (aLen tab 81 v3) fun v4 =>
    k .normal (st 10 [(2, v4)]) h
  := by kernel_rfl
end Go.Ax

/- What the regions of some functions hand on. Printed by a program of mine (gen.py). -/
set_option linter.unusedVariables false
namespace Go.Ax
open Go Go.Proofs
/-! ### (*interregnum/sector.Disk).there -/
noncomputable def O49 (i : Nat) : Array Oper := opsOf i (bodyOf Try.f49)
theorem s49 : bodyOf Try.f49 = (.seq (.region 0 (O49 0) false) (.seq (.region 1 (O49 1) false) .ret)) := by kernel_rfl
theorem e49 : E0 49 = some ⟨13, [4], bodyOf Try.f49⟩ := by kernel_rfl
theorem r49_0 {β : Type} (call : CallF) (md : Bool) (n : Nat) (k : Ex → List AV → Heap → Option β) (x0 x1 : AV) (h : Heap) :
    runK C0 call md 49 n (.region 0 (O49 0) false) k (st 13 [(0, x0), (1, x1)]) h =
    k .normal (st 13 [(0, x0), (1, x1)]) h
  := by kernel_rfl
def J49_1_2 {β : Type} (call : CallF) (md : Bool) (k : Ex → List AV → Heap → Option β) (x7 x11 : AV) (h : Heap) : Option β :=
    bnd (aPick x7 x11 (.bool false)) fun v1 =>
    k .normal (st 13 [(4, v1)]) h

theorem j49_1_2 {β : Type} (call : CallF) (md : Bool) (k : Ex → List AV → Heap → Option β) (x0 x1 x5 x6 x7 x8 x9 x10 x11 : AV) (h : Heap) :
    opsK C0 call md 49 (O49 1) ((O49 1).toList.drop 7) (st 13 [(0, x0), (1, x1), (5, x5), (6, x6), (7, x7), (8, x8), (9, x9), (10, x10), (11, x11)]) h (fun tm h => k .normal (clr (C0.keep 49 1) tm) h) = J49_1_2 call md k x7 x11 h := by kernel_rfl
def J49_1_1 {β : Type} (call : CallF) (md : Bool) (k : Ex → List AV → Heap → Option β) (x0 x1 x7 : AV) (h : Heap) : Option β :=
    onG true x7 (
      bnd2 (aCall call md (.fn (.func 46) []) [x0] h) fun v3 h4 =>
      bnd (aBinC tab .lss 3 x1 v3 false) fun v5 =>
      J49_1_2 call md k x7 v5 h4) (
      J49_1_2 call md k x7 .skip h)

theorem g49_1_1 {β : Type} (call : CallF) (md : Bool) (kk : List AV → Heap → Option β) (x0 x1 x5 x6 x7 : AV) (h : Heap) :
    opsK C0 call md 49 (O49 1) (((O49 1).toList.drop 3).take 4) (st 13 [(0, x0), (1, x1), (5, x5), (6, x6), (7, x7)]) h kk =
    onG true x7 (
      bnd2 (aCall call md (.fn (.func 46) []) [x0] h) fun v6 h7 =>
      bnd (aBinC tab .lss 3 x1 v6 false) fun v8 =>
      kk (st 13 [(0, x0), (1, x1), (5, x5), (6, x6), (7, x7), (8, x1), (9, x0), (10, v6), (11, v8)]) h7) (
      kk (st 13 [(0, x0), (1, x1), (5, x5), (6, x6), (7, x7), (8, .skip), (9, .skip), (10, .skip), (11, .skip)]) h)
  := by cases x7 with | bool b => (cases b <;> kernel_rfl) | _ => kernel_rfl
theorem j49_1_1 {β : Type} (call : CallF) (md : Bool) (k : Ex → List AV → Heap → Option β) (x0 x1 x5 x6 x7 : AV) (h : Heap) :
    opsK C0 call md 49 (O49 1) ((O49 1).toList.drop 3) (st 13 [(0, x0), (1, x1), (5, x5), (6, x6), (7, x7)]) h (fun tm h => k .normal (clr (C0.keep 49 1) tm) h) = J49_1_1 call md k x0 x1 x7 h := by
  have e : ((O49 1).toList.drop 3) = ((O49 1).toList.drop 3).take 4 ++ (O49 1).toList.drop 7 := by kernel_rfl
  rw [show opsK C0 call md 49 (O49 1) ((O49 1).toList.drop 3) = opsK C0 call md 49 (O49 1) (((O49 1).toList.drop 3).take 4 ++ (O49 1).toList.drop 7) from congrArg _ e]
  rw [opsK_append, g49_1_1]
  simp only [j49_1_2]
  rfl
def J49_1_0 {β : Type} (call : CallF) (md : Bool) (k : Ex → List AV → Heap → Option β) (x0 x1 : AV) (h : Heap) : Option β :=
    bnd (aBinC tab .geq 3 x1 (.int .i64 0) true) fun v9 =>
    J49_1_1 call md k x0 x1 v9 h

theorem g49_1_0 {β : Type} (call : CallF) (md : Bool) (kk : List AV → Heap → Option β) (x0 x1 : AV) (h : Heap) :
    opsK C0 call md 49 (O49 1) ((O49 1).toList.take 3) (st 13 [(0, x0), (1, x1)]) h kk =
    bnd (aBinC tab .geq 3 x1 (.int .i64 0) true) fun v10 =>
    kk (st 13 [(0, x0), (1, x1), (5, x1), (6, v10), (7, v10)]) h
  := by kernel_rfl
theorem j49_1_0 {β : Type} (call : CallF) (md : Bool) (k : Ex → List AV → Heap → Option β) (x0 x1 : AV) (h : Heap) :
    opsK C0 call md 49 (O49 1) (O49 1).toList (st 13 [(0, x0), (1, x1)]) h (fun tm h => k .normal (clr (C0.keep 49 1) tm) h) = J49_1_0 call md k x0 x1 h := by
  have e : (O49 1).toList = (O49 1).toList.take 3 ++ (O49 1).toList.drop 3 := by kernel_rfl
  rw [show opsK C0 call md 49 (O49 1) (O49 1).toList = opsK C0 call md 49 (O49 1) ((O49 1).toList.take 3 ++ (O49 1).toList.drop 3) from congrArg _ e]
  rw [opsK_append, g49_1_0]
  simp only [j49_1_1]
  rfl
theorem r49_1 {β : Type} (call : CallF) (md : Bool) (n : Nat) (k : Ex → List AV → Heap → Option β) (x0 x1 : AV) (h : Heap) :
    runK C0 call md 49 n (.region 1 (O49 1) false) k (st 13 [(0, x0), (1, x1)]) h = J49_1_0 call md k x0 x1 h := (runK_region C0 call md 49 n 1 (O49 1) k (st 13 [(0, x0), (1, x1)]) h).trans (j49_1_0 call md k x0 x1 h)
end Go.Ax

/- What the regions of some functions hand on. Printed by a program of mine (gen.py). -/
set_option linter.unusedVariables false
namespace Go.Ax
open Go Go.Proofs
/-! ### (*interregnum/sector.Disk).burn -/
noncomputable def O50 (i : Nat) : Array Oper := opsOf i (bodyOf Try.f50)
theorem s50 : bodyOf Try.f50 = (.seq (.region 0 (O50 0) false) (.seq (.seq (.region 1 (O50 1) false) (.cond (Go.Operand.tmp 7) (.region 2 (O50 2) false) .skip)) (.seq (.seq (.region 3 (O50 3) false) (.cond (Go.Operand.tmp 15) (.region 4 (O50 4) false) .skip)) (.seq (.region 5 (O50 5) false) .ret)))) := by kernel_rfl
theorem e50 : E0 50 = some ⟨28, [2], bodyOf Try.f50⟩ := by kernel_rfl
theorem r50_0 {β : Type} (call : CallF) (md : Bool) (n : Nat) (k : Ex → List AV → Heap → Option β) (x0 : AV) (h : Heap) :
    runK C0 call md 50 n (.region 0 (O50 0) false) k (st 28 [(0, x0)]) h =
    k .normal (st 28 [(0, x0)]) h
  := by kernel_rfl
theorem r50_1 {β : Type} (call : CallF) (md : Bool) (n : Nat) (k : Ex → List AV → Heap → Option β) (x0 : AV) (h : Heap) :
    runK C0 call md 50 n (.region 1 (O50 1) false) k (st 28 [(0, x0)]) h =
    bnd (aNil x0) fun v1 =>
    bnd (aFieldAddr tab 84 v1 2) fun v2 =>
    bnd (aLoad tab 3 v2 h) fun v3 =>
    bnd (aBinC tab .eql 3 v3 (.int .i64 0) true) fun v4 =>
    k .normal (st 28 [(0, x0), (7, v4)]) h
  := by kernel_rfl
theorem r50_2 {β : Type} (call : CallF) (md : Bool) (n : Nat) (k : Ex → List AV → Heap → Option β) (x0 x7 : AV) (h : Heap) :
    runK C0 call md 50 n (.region 2 (O50 2) false) k (st 28 [(0, x0), (7, x7)]) h =
    bnd (aNil x0) fun v1 =>
    bnd (aFieldAddr tab 84 v1 3) fun v2 =>
    bnd (aStore tab 4 v2 (.bool true) h) fun h3 =>
    k .normal (st 28 [(0, x0)]) h3
  := by kernel_rfl
theorem r50_3a {β : Type} (call : CallF) (md : Bool) (n : Nat) (k : Ex → List AV → Heap → Option β) (x0 x7 : AV) (h : Heap) :
    runK C0 call md 50 n (.region 3 (O50 3) false) k (st 28 [(0, x0), (7, x7)]) h =
    bnd (aNil x0) fun v1 =>
    bnd (aFieldAddr tab 84 v1 2) fun v2 =>
    bnd (aLoad tab 3 v2 h) fun v3 =>
    bnd (aBinC tab .gtr 3 v3 (.int .i64 0) true) fun v4 =>
    k .normal (st 28 [(0, x0), (15, v4)]) h
  := by kernel_rfl
theorem r50_3b {β : Type} (call : CallF) (md : Bool) (n : Nat) (k : Ex → List AV → Heap → Option β) (x0 : AV) (h : Heap) :
    runK C0 call md 50 n (.region 3 (O50 3) false) k (st 28 [(0, x0)]) h =
    bnd (aNil x0) fun v1 =>
    bnd (aFieldAddr tab 84 v1 2) fun v2 =>
    bnd (aLoad tab 3 v2 h) fun v3 =>
    bnd (aBinC tab .gtr 3 v3 (.int .i64 0) true) fun v4 =>
    k .normal (st 28 [(0, x0), (15, v4)]) h
  := by kernel_rfl
theorem r50_4 {β : Type} (call : CallF) (md : Bool) (n : Nat) (k : Ex → List AV → Heap → Option β) (x0 x15 : AV) (h : Heap) :
    runK C0 call md 50 n (.region 4 (O50 4) false) k (st 28 [(0, x0), (15, x15)]) h =
    bnd (aNil x0) fun v1 =>
    bnd (aFieldAddr tab 84 v1 2) fun v2 =>
    bnd (aLoad tab 3 v2 h) fun v3 =>
    bnd (aBinC tab .sub 3 v3 (.int .i64 1) true) fun v4 =>
    bnd (aNil x0) fun v5 =>
    bnd (aFieldAddr tab 84 v5 2) fun v6 =>
    bnd (aStore tab 3 v6 v4 h) fun h7 =>
    k .normal (st 28 [(0, x0)]) h7
  := by kernel_rfl
theorem r50_5a {β : Type} (call : CallF) (md : Bool) (n : Nat) (k : Ex → List AV → Heap → Option β) (x0 x15 : AV) (h : Heap) :
    runK C0 call md 50 n (.region 5 (O50 5) false) k (st 28 [(0, x0), (15, x15)]) h =
    bnd (aNil x0) fun v1 =>
    bnd (aFieldAddr tab 84 v1 3) fun v2 =>
    bnd (aLoad tab 4 v2 h) fun v3 =>
    bnd (aUn .not v3) fun v4 =>
    k .normal (st 28 [(2, v4)]) h
  := by kernel_rfl
theorem r50_5b {β : Type} (call : CallF) (md : Bool) (n : Nat) (k : Ex → List AV → Heap → Option β) (x0 : AV) (h : Heap) :
    runK C0 call md 50 n (.region 5 (O50 5) false) k (st 28 [(0, x0)]) h =
    bnd (aNil x0) fun v1 =>
    bnd (aFieldAddr tab 84 v1 3) fun v2 =>
    bnd (aLoad tab 4 v2 h) fun v3 =>
    bnd (aUn .not v3) fun v4 =>
    k .normal (st 28 [(2, v4)]) h
  := by kernel_rfl
end Go.Ax

/- sector's disk: how it lies in memory; Len, there, burn, Write. -/
namespace Go.Ax
open Go Go.Proofs

/-- A disk: its sectors, the writes that are loose, the fuse, whether it is down. -/
structure Dk where
  lasts : List (List UInt8)
  loose : List (Nat × List UInt8)
  fuse : Int
  down : Bool

def cellAV (b : List UInt8) : AV := .agg 88 (b.map U8)
def writeAV (w : Nat × List UInt8) : AV := .agg 90 [.int .i64 w.1, cellAV w.2]
def lastsAV (r n : Nat) : AV := if n = 0 then .vsl 88 [] .none else .msl r [] 88 0 n
/-- The disk's variable. -/
def dv (r n : Nat) (x : AV) (f : Int) (w : Bool) : Obj := .var 84 (.agg 83 [lastsAV r n, x, .int .i64 f, .bool w])

/-- The disk d lies at p, its sectors at r; all its objects are of S. -/
structure Dsk (S : Obs) (h : Heap) (p r : Nat) (d : Dk) : Prop where
  hp : S p
  hr : d.lasts ≠ [] → S r
  var : ∃ x, h[p]? = some (dv r d.lasts.length x d.fuse d.down) ∧ Ap 90 S h x (d.loose.map writeAV)
  row : d.lasts ≠ [] → h[r]? = some (.row 88 (d.lasts.map cellAV))
  cells : ∀ b ∈ d.lasts, b.length = 64
  loose : ∀ w ∈ d.loose, w.1 < d.lasts.length ∧ w.2.length = 64
  few : d.lasts.length ≤ 1024

theorem Dsk.keep {S U : Obs} {h h' : Heap} {p r : Nat} {d : Dk} (D : Dsk S h p r d) (k : Keep U h h') (hd : ∀ i, i < h.length → S i → ¬ U i) : Dsk S h' p r d := by
  obtain ⟨x, hx, ha⟩ := D.var
  refine ⟨D.hp, D.hr, ⟨x, ?_, ha.keep k hd⟩, fun hne => ?_, D.cells, D.loose, D.few⟩
  · rw [k.2 p (hd p (List.getElem?_eq_some_iff.1 hx).1 D.hp)]; exact hx
  · have hr := D.row hne
    rw [k.2 r (hd r (List.getElem?_eq_some_iff.1 hr).1 (D.hr hne))]; exact hr

theorem Dsk.fresh {S : Obs} {h h' : Heap} {p r : Nat} {d : Dk} (D : Dsk S h p r d) (k : Keep (From h.length) h h') : Dsk S h' p r d := D.keep k fun _ hi _ hj => Nat.not_le.2 hi hj
theorem Dsk.mono {S U : Obs} {h : Heap} {p r : Nat} {d : Dk} (D : Dsk S h p r d) (hs : ∀ i, S i → U i) : Dsk U h p r d := by
  obtain ⟨x, hx, ha⟩ := D.var
  exact ⟨hs _ D.hp, fun e => hs _ (D.hr e), ⟨x, hx, ha.mono hs⟩, D.row, D.cells, D.loose, D.few⟩

/-- A field of a struct variable is read. -/
theorem load_fld {h : Heap} {p t u i ty u' : Nat} {fs : List AV} {v : AV} (hp : h[p]? = some (.var t (.agg u fs))) (hv : fs[i]? = some v) (hu : u' = Tab.und tab ty) : aLoad tab ty (.ref p [i] u') h = some v := by
  simp [aLoad, hu, hp, objGet, getP, hv]

/-- A field of a struct variable is written. -/
theorem store_fld {h : Heap} {p t u i ty u' : Nat} {fs : List AV} {v x : AV} (hp : h[p]? = some (.var t (.agg u fs))) (hv : fs[i]? = some v) (hu : u' = Tab.und tab ty) (hf : fits tab ty x = true) :
    aStore tab ty (.ref p [i] u') x h = some (h.set p (.var t (.agg u (fs.set i x)))) := by
  simp [aStore, hu, hf, hp, objSet, setP, hv]

/-- A whole variable is read, or written. -/
theorem load_var {h : Heap} {p t ty u' : Nat} {v : AV} (hp : h[p]? = some (.var t v)) (hu : u' = Tab.und tab ty) : aLoad tab ty (.ref p [] u') h = some v := by
  simp [aLoad, hu, hp, objGet, getP]
theorem store_var {h : Heap} {p t ty u' : Nat} {v x : AV} (hp : h[p]? = some (.var t v)) (hu : u' = Tab.und tab ty) (hf : fits tab ty x = true) :
    aStore tab ty (.ref p [] u') x h = some (h.set p (.var t x)) := by
  simp [aStore, hu, hf, hp, objSet, setP]
theorem store_new {h : Heap} {t ty u' : Nat} {v x : AV} (hu : u' = Tab.und tab ty) (hf : fits tab ty x = true) :
    aStore tab ty (.ref h.length [] u') x (h ++ [.var t v]) = some (h ++ [.var t x]) := by
  rw [store_var (t := t) (v := v) (by simp) hu hf]
  simp

/-- A pointer to a disk. -/
abbrev dp (p : Nat) : AV := .ref p [] 83

section fields
variable {h : Heap} {p r n : Nat} {x : AV} {f : Int} {w : Bool} (hp : h[p]? = some (dv r n x f w))
include hp
theorem dld0 : aLoad tab 81 (.ref p [0] 81) h = some (lastsAV r n) := load_fld (i := 0) hp rfl (by simp)
theorem dld1 : aLoad tab 82 (.ref p [1] 82) h = some x := load_fld (i := 1) hp rfl (by simp)
theorem dld2 : aLoad tab 3 (.ref p [2] 3) h = some (.int .i64 f) := load_fld (i := 2) hp rfl (by simp)
theorem dld3 : aLoad tab 4 (.ref p [3] 4) h = some (.bool w) := load_fld (i := 3) hp rfl (by simp)
theorem dst1 {y : AV} (hf : fits tab 82 y = true) : aStore tab 82 (.ref p [1] 82) y h = some (h.set p (dv r n y f w)) := store_fld (i := 1) hp rfl (by simp) hf
theorem dst2 (g : Int) : aStore tab 3 (.ref p [2] 3) (.int .i64 g) h = some (h.set p (dv r n x g w)) := store_fld (i := 2) hp rfl (by simp) rfl
theorem dst3 (g : Bool) : aStore tab 4 (.ref p [3] 4) (.bool g) h = some (h.set p (dv r n x f g)) := store_fld (i := 3) hp rfl (by simp) rfl
end fields

theorem dp_nil (p : Nat) : aBinC tab .eql 25 (dp p) .nilp true = some (.bool false) := by simp [aBinC, aBin, aEq]
theorem dp_neq (p : Nat) : aBinC tab .neq 25 (dp p) .nilp true = some (.bool true) := by simp [aBinC, aBin, aEq]
theorem dp_chk (p : Nat) : aNil (dp p) = some (dp p) := rfl
theorem dpf0 (p : Nat) : aFieldAddr tab 84 (dp p) 0 = some (.ref p [0] 81) := by simp [aFieldAddr]
theorem dpf1 (p : Nat) : aFieldAddr tab 84 (dp p) 1 = some (.ref p [1] 82) := by simp [aFieldAddr]
theorem dpf2 (p : Nat) : aFieldAddr tab 84 (dp p) 2 = some (.ref p [2] 3) := by simp [aFieldAddr]
theorem dpf3 (p : Nat) : aFieldAddr tab 84 (dp p) 3 = some (.ref p [3] 4) := by simp [aFieldAddr]

theorem len81 (r n : Nat) : aLen tab 81 (lastsAV r n) = some (.int .i64 n) := by
  unfold lastsAV
  split
  · rename_i h; subst h; simp [aLen]
  · simp [aLen]

theorem len_ok {S : Obs} {p r : Nat} {h : Heap} {d : Dk} (D : Dsk S h p r d) (md : Bool) (k : Nat) : exFn C0 E0 (k + 1) md 46 [dp p] h = some (.int .i64 d.lasts.length, h) := by
  obtain ⟨x, hx, -⟩ := D.var
  refine exFn_of e46 ?_
  rw [fnK, show ([dp p] ++ List.replicate (10 - [dp p].length) AV.undef) = st 10 [(0, dp p)] from rfl, s46]
  simp -implicitDefEqProofs only [↓runK_seq, runK_seq, ↓runK_cond, runK_cond, ↓runK_block, runK_block, ↓runK_loop, runK_loop, ↓runK_skip, runK_skip, ↓runK_ret, runK_ret, ↓runK_exit, runK_exit, ↓seqE_n, seqE_n, ↓seqE_e, seqE_e, ↓seqE_r, seqE_r, ↓blkE_n, blkE_n, ↓blkE_e, blkE_e, ↓blkE_r, blkE_r, ↓retK_n, retK_n, ↓retK_r, retK_r, ↓aCall_fn, aCall_fn, ↓bnd_s, bnd_s, ↓bnd2_s, bnd2_s, ↓onB_t, onB_t, ↓onB_f, onB_f, ↓onG_tt, onG_tt, ↓onG_tf, onG_tf, ↓onG_ft, onG_ft, ↓onG_ff, onG_ff, ↓onG_s, onG_s, ↓onT_t, onT_t, ↓aPick_t, aPick_t, ↓aPick_f, aPick_f, decide_true, decide_false, st_tmp, results1, results2, List.lookup_cons, List.lookup_nil, Nat.reduceBEq, Bool.false_eq_true, ↓reduceIte, BEq.rfl, Nat.reduceLT, Option.getD_some, Option.getD_none, ↓r46_0, r46_0, ↓r46_1, r46_1, ↓r46_2, r46_2, ↓r46_3, r46_3, dp_nil, dp_chk, dpf0, dld0 hx, len81]

def Dk.has (d : Dk) (i : Int) : Prop := 0 ≤ i ∧ i < d.lasts.length
instance (d : Dk) (i : Int) : Decidable (d.has i) := by unfold Dk.has; infer_instance

theorem there_ok {S : Obs} {p r : Nat} {h : Heap} {d : Dk} (D : Dsk S h p r d) (i : Int) (md : Bool) (k : Nat) : exFn C0 E0 (k + 2) md 49 [dp p, .int .i64 i] h = some (.bool (decide (d.has i)), h) := by
  refine exFn_of e49 ?_
  rw [fnK, show ([dp p, .int .i64 i] ++ List.replicate (13 - [dp p, .int .i64 i].length) AV.undef) = st 13 [(0, dp p), (1, .int .i64 i)] from rfl, s49]
  by_cases h0 : 0 ≤ i
  · have e : decide (0 ≤ i) = true := by simpa using h0
    have e2 : decide (d.has i) = decide (i < d.lasts.length) := by simp [Dk.has, h0]
    simp -implicitDefEqProofs only [↓runK_seq, runK_seq, ↓runK_cond, runK_cond, ↓runK_block, runK_block, ↓runK_loop, runK_loop, ↓runK_skip, runK_skip, ↓runK_ret, runK_ret, ↓runK_exit, runK_exit, ↓seqE_n, seqE_n, ↓seqE_e, seqE_e, ↓seqE_r, seqE_r, ↓blkE_n, blkE_n, ↓blkE_e, blkE_e, ↓blkE_r, blkE_r, ↓retK_n, retK_n, ↓retK_r, retK_r, ↓aCall_fn, aCall_fn, ↓bnd_s, bnd_s, ↓bnd2_s, bnd2_s, ↓onB_t, onB_t, ↓onB_f, onB_f, ↓onG_tt, onG_tt, ↓onG_tf, onG_tf, ↓onG_ft, onG_ft, ↓onG_ff, onG_ff, ↓onG_s, onG_s, ↓onT_t, onT_t, ↓aPick_t, aPick_t, ↓aPick_f, aPick_f, decide_true, decide_false, st_tmp, results1, results2, List.lookup_cons, List.lookup_nil, Nat.reduceBEq, Bool.false_eq_true, ↓reduceIte, BEq.rfl, Nat.reduceLT, Option.getD_some, Option.getD_none, ↓r49_0, r49_0, ↓r49_1, r49_1, J49_1_0, J49_1_1, J49_1_2, bin_geq, e, len_ok D, bin_lss, e2]
  · have e : decide (0 ≤ i) = false := by simpa using h0
    have e2 : decide (d.has i) = false := by simp [Dk.has, h0]
    simp -implicitDefEqProofs only [↓runK_seq, runK_seq, ↓runK_cond, runK_cond, ↓runK_block, runK_block, ↓runK_loop, runK_loop, ↓runK_skip, runK_skip, ↓runK_ret, runK_ret, ↓runK_exit, runK_exit, ↓seqE_n, seqE_n, ↓seqE_e, seqE_e, ↓seqE_r, seqE_r, ↓blkE_n, blkE_n, ↓blkE_e, blkE_e, ↓blkE_r, blkE_r, ↓retK_n, retK_n, ↓retK_r, retK_r, ↓aCall_fn, aCall_fn, ↓bnd_s, bnd_s, ↓bnd2_s, bnd2_s, ↓onB_t, onB_t, ↓onB_f, onB_f, ↓onG_tt, onG_tt, ↓onG_tf, onG_tf, ↓onG_ft, onG_ft, ↓onG_ff, onG_ff, ↓onG_s, onG_s, ↓onT_t, onT_t, ↓aPick_t, aPick_t, ↓aPick_f, aPick_f, decide_true, decide_false, st_tmp, results1, results2, List.lookup_cons, List.lookup_nil, Nat.reduceBEq, Bool.false_eq_true, ↓reduceIte, BEq.rfl, Nat.reduceLT, Option.getD_some, Option.getD_none, ↓r49_0, r49_0, ↓r49_1, r49_1, J49_1_0, J49_1_1, J49_1_2, bin_geq, e, len_ok D, bin_lss, e2]

/-- The disk's own variable is written: fuse and power. -/
theorem Dsk.upd {S : Obs} {p r : Nat} {h : Heap} {d : Dk} (D : Dsk S h p r d) {x : AV} (hx : h[p]? = some (dv r d.lasts.length x d.fuse d.down)) (ha : Ap 90 S h x (d.loose.map writeAV)) (f : Int) (w : Bool) :
    Dsk S (h.set p (dv r d.lasts.length x f w)) p r { d with fuse := f, down := w } := by
  have hlt : p < h.length := (List.getElem?_eq_some_iff.1 hx).1
  refine ⟨D.hp, D.hr, ⟨x, by simp [hlt], ha.at hx (by simp [dv]) fun i _ hi => List.getElem?_set_ne (by omega)⟩, fun hne => ?_, D.cells, D.loose, D.few⟩
  have hr := D.row hne
  rw [List.getElem?_set_ne]
  · exact hr
  · intro e
    subst e
    rw [hx] at hr
    cases hr

def Dk.burn (d : Dk) : Dk := { d with fuse := if 0 < d.fuse then d.fuse - 1 else d.fuse, down := d.down || decide (d.fuse = 0) }

theorem burn_ok {S : Obs} {p r : Nat} {h : Heap} {d : Dk} (D : Dsk S h p r d) (hf : d.fuse < 2 ^ 63) (md : Bool) (k : Nat) :
    ∃ h', exFn C0 E0 (k + 1) md 50 [dp p] h = some (.bool (!d.burn.down), h') ∧ Dsk S h' p r d.burn ∧ Keep S h h' ∧ (∀ i, i ≠ p → h'[i]? = h[i]?) ∧ h'.length = h.length := by
  obtain ⟨x, hx, ha⟩ := D.var
  have hlt : p < h.length := (List.getElem?_eq_some_iff.1 hx).1
  have n0 : ([dp p] ++ List.replicate (28 - [dp p].length) AV.undef) = st 28 [(0, dp p)] := rfl
  rcases Int.lt_trichotomy d.fuse 0 with h0 | h0 | h0
  · refine ⟨h, exFn_of e50 ?_, ?_, Keep.refl _ _, fun _ _ => rfl, rfl⟩
    · have e1 : decide (d.fuse = 0) = false := by simp; omega
      have e2 : decide (0 < d.fuse) = false := by simp; omega
      have e3 : d.burn.down = d.down := by simp [Dk.burn, e1]
      rw [fnK, n0, s50, e3]
      simp -implicitDefEqProofs only [↓runK_seq, runK_seq, ↓runK_cond, runK_cond, ↓runK_block, runK_block, ↓runK_loop, runK_loop, ↓runK_skip, runK_skip, ↓runK_ret, runK_ret, ↓runK_exit, runK_exit, ↓seqE_n, seqE_n, ↓seqE_e, seqE_e, ↓seqE_r, seqE_r, ↓blkE_n, blkE_n, ↓blkE_e, blkE_e, ↓blkE_r, blkE_r, ↓retK_n, retK_n, ↓retK_r, retK_r, ↓aCall_fn, aCall_fn, ↓bnd_s, bnd_s, ↓bnd2_s, bnd2_s, ↓onB_t, onB_t, ↓onB_f, onB_f, ↓onG_tt, onG_tt, ↓onG_tf, onG_tf, ↓onG_ft, onG_ft, ↓onG_ff, onG_ff, ↓onG_s, onG_s, ↓onT_t, onT_t, ↓aPick_t, aPick_t, ↓aPick_f, aPick_f, decide_true, decide_false, st_tmp, results1, results2, List.lookup_cons, List.lookup_nil, Nat.reduceBEq, Bool.false_eq_true, ↓reduceIte, BEq.rfl, Nat.reduceLT, Option.getD_some, Option.getD_none, ↓r50_0, r50_0, ↓r50_1, r50_1, ↓r50_2, r50_2, ↓r50_3a, r50_3a, ↓r50_3b, r50_3b, ↓r50_4, r50_4, ↓r50_5a, r50_5a, ↓r50_5b, r50_5b, dp_chk, dpf2, dpf3, dld2 hx, dld3 hx, bin_eql, e1, bin_gtr, e2, un_not]
    · have : d.burn = d := by
        have e1 : decide (d.fuse = 0) = false := by simp; omega
        have e2 : ¬ 0 < d.fuse := by omega
        unfold Dk.burn
        rw [e1, if_neg e2]
        simp
      rw [this]; exact D
  · have D1 := D.upd hx ha d.fuse true
    have hb : d.burn = { d with fuse := d.fuse, down := true } := by
      have e2 : ¬ 0 < d.fuse := by omega
      unfold Dk.burn
      simp [h0]
    refine ⟨_, exFn_of e50 ?_, hb ▸ D1, Keep.set h _ D.hp, fun i hi => List.getElem?_set_ne (by omega), by simp⟩
    have e1 : decide (d.fuse = 0) = true := by simp; omega
    have e2 : decide (0 < d.fuse) = false := by simp; omega
    have hx' : (h.set p (dv r d.lasts.length x d.fuse true))[p]? = some (dv r d.lasts.length x d.fuse true) := by simp [hlt]
    rw [fnK, n0, s50, hb]
    simp -implicitDefEqProofs only [↓runK_seq, runK_seq, ↓runK_cond, runK_cond, ↓runK_block, runK_block, ↓runK_loop, runK_loop, ↓runK_skip, runK_skip, ↓runK_ret, runK_ret, ↓runK_exit, runK_exit, ↓seqE_n, seqE_n, ↓seqE_e, seqE_e, ↓seqE_r, seqE_r, ↓blkE_n, blkE_n, ↓blkE_e, blkE_e, ↓blkE_r, blkE_r, ↓retK_n, retK_n, ↓retK_r, retK_r, ↓aCall_fn, aCall_fn, ↓bnd_s, bnd_s, ↓bnd2_s, bnd2_s, ↓onB_t, onB_t, ↓onB_f, onB_f, ↓onG_tt, onG_tt, ↓onG_tf, onG_tf, ↓onG_ft, onG_ft, ↓onG_ff, onG_ff, ↓onG_s, onG_s, ↓onT_t, onT_t, ↓aPick_t, aPick_t, ↓aPick_f, aPick_f, decide_true, decide_false, st_tmp, results1, results2, List.lookup_cons, List.lookup_nil, Nat.reduceBEq, Bool.false_eq_true, ↓reduceIte, BEq.rfl, Nat.reduceLT, Option.getD_some, Option.getD_none, ↓r50_0, r50_0, ↓r50_1, r50_1, ↓r50_2, r50_2, ↓r50_3a, r50_3a, ↓r50_3b, r50_3b, ↓r50_4, r50_4, ↓r50_5a, r50_5a, ↓r50_5b, r50_5b, dp_chk, dpf2, dpf3, dld2 hx, dld3 hx, dld2 hx', dld3 hx', dst3 hx, bin_eql, e1, bin_gtr, e2, un_not]
  · have w : IntKind.i64.wrap (d.fuse - 1) = d.fuse - 1 := wrap_i64 (by omega) (by omega)
    have D1 := D.upd hx ha (d.fuse - 1) d.down
    have hb : d.burn = { d with fuse := d.fuse - 1, down := d.down } := by
      have e1 : decide (d.fuse = 0) = false := by simp; omega
      unfold Dk.burn
      rw [e1, if_pos h0]
      simp
    refine ⟨_, exFn_of e50 ?_, hb ▸ D1, Keep.set h _ D.hp, fun i hi => List.getElem?_set_ne (by omega), by simp⟩
    have e1 : decide (d.fuse = 0) = false := by simp; omega
    have e2 : decide (0 < d.fuse) = true := by simp; omega
    have hx' : (h.set p (dv r d.lasts.length x (d.fuse - 1) d.down))[p]? = some (dv r d.lasts.length x (d.fuse - 1) d.down) := by simp [hlt]
    rw [fnK, n0, s50, hb]
    simp -implicitDefEqProofs only [↓runK_seq, runK_seq, ↓runK_cond, runK_cond, ↓runK_block, runK_block, ↓runK_loop, runK_loop, ↓runK_skip, runK_skip, ↓runK_ret, runK_ret, ↓runK_exit, runK_exit, ↓seqE_n, seqE_n, ↓seqE_e, seqE_e, ↓seqE_r, seqE_r, ↓blkE_n, blkE_n, ↓blkE_e, blkE_e, ↓blkE_r, blkE_r, ↓retK_n, retK_n, ↓retK_r, retK_r, ↓aCall_fn, aCall_fn, ↓bnd_s, bnd_s, ↓bnd2_s, bnd2_s, ↓onB_t, onB_t, ↓onB_f, onB_f, ↓onG_tt, onG_tt, ↓onG_tf, onG_tf, ↓onG_ft, onG_ft, ↓onG_ff, onG_ff, ↓onG_s, onG_s, ↓onT_t, onT_t, ↓aPick_t, aPick_t, ↓aPick_f, aPick_f, decide_true, decide_false, st_tmp, results1, results2, List.lookup_cons, List.lookup_nil, Nat.reduceBEq, Bool.false_eq_true, ↓reduceIte, BEq.rfl, Nat.reduceLT, Option.getD_some, Option.getD_none, ↓r50_0, r50_0, ↓r50_1, r50_1, ↓r50_2, r50_2, ↓r50_3a, r50_3a, ↓r50_3b, r50_3b, ↓r50_4, r50_4, ↓r50_5a, r50_5a, ↓r50_5b, r50_5b, dp_chk, dpf2, dpf3, dld2 hx, dld3 hx, dld3 hx', dst2 hx, bin_eql, e1, bin_gtr, e2, bin_sub, w, un_not]

/-! ### Write -/
/-- Bytes: in memory that never changes, or in an object of U. -/
def By (U : Obs) (h : Heap) (x : AV) (l : List UInt8) : Prop :=
  Bs x l ∨ ∃ r p off L, x = .msl r p 5 off l.length ∧ U r ∧ (h[r]?).bind (rowGet · p) = some L ∧ off + l.length ≤ L.length ∧ (L.drop off).take l.length = l.map U8

theorem By.len {U : Obs} {h : Heap} {x : AV} {l : List UInt8} (b : By U h x l) : aLen tab 22 x = some (.int .i64 l.length) := by
  rcases b with b | ⟨r, p, off, L, rfl, -⟩
  · exact b.len
  · simp [aLen]
theorem By.src {U : Obs} {h : Heap} {x : AV} {l : List UInt8} (b : By U h x l) : srcElems tab 5 h x = some (l.map U8) := by
  rcases b with (⟨rfl, rfl⟩ | ⟨k, rfl⟩) | ⟨r, p, off, L, rfl, -, hr, hle, hl⟩
  · simp [srcElems]
  · simp [srcElems]
  · simp [srcElems, slElems, hr, hle, hl]
theorem By.keep {U V : Obs} {h h' : Heap} {x : AV} {l : List UInt8} (b : By U h x l) (k : Keep V h h') (hd : ∀ i, i < h.length → U i → ¬ V i) : By U h' x l := by
  rcases b with b | ⟨r, p, off, L, hx, hu, hr, hl⟩
  · exact .inl b
  · have hlt : r < h.length := by
      rcases Nat.lt_or_ge r h.length with g | g
      · exact g
      · rw [List.getElem?_eq_none g] at hr; cases hr
    exact .inr ⟨r, p, off, L, hx, hu, by rw [k.2 r (hd r hlt hu)]; exact hr, hl⟩
theorem By.fits {U : Obs} {h : Heap} {x : AV} {l : List UInt8} (b : By U h x l) : fits tab 22 x = true := by
  rcases b with (⟨rfl, rfl⟩ | ⟨k, rfl⟩) | ⟨r, p, off, L, rfl, -⟩ <;> rfl

theorem Ap.fits82 {S : Obs} {h : Heap} {x : AV} {l : List AV} (a : Ap 90 S h x l) : fits tab 82 x = true := by
  rcases a with ⟨rfl, -⟩ | ⟨k, rfl, -⟩ <;> rfl

/-- Bytes, filled up to a sector. -/
def pad (b : List UInt8) : List UInt8 := b ++ List.replicate (64 - b.length) 0

theorem bld91 (n : Int) : aBuild tab 91 [(0, .int .i64 n)] = some (.agg 90 [.int .i64 n, cellAV (List.replicate 64 0)]) := by kernel_rfl
theorem alloc91 (h : Heap) : aAlloc tab 91 h = some (.ref h.length [] 90, h ++ [.var 91 (.agg 90 [.int .i64 0, cellAV (List.replicate 64 0)])]) := by kernel_rfl
theorem fa91_0 (q : Nat) : aFieldAddr tab 91 (.ref q [] 90) 0 = some (.ref q [0] 3) := by simp [aFieldAddr]
theorem fa91_1 (q : Nat) : aFieldAddr tab 91 (.ref q [] 90) 1 = some (.ref q [1] 88) := by simp [aFieldAddr]
theorem sl89 (q i : Nat) : aSlice tab 89 (.ref q [i] 88) none none none = some (.msl q [i] 5 0 64) := by simp [aSlice, aBounds, aBound]
theorem sl89v (l : List AV) (hl : l.length = 64) : aSlice tab 89 (.vptr 88 (.agg 88 l)) none none none = some (.vsl 5 l .none) := by
  simp [aSlice, aBounds, aBound]; rw [← hl]; simp
theorem fits91 (w : Nat × List UInt8) : fits tab 91 (writeAV w) = true := by kernel_rfl
theorem lit82 (w : Nat × List UInt8) : aLit tab 82 1 [(0, writeAV w)] = some (.vsl 90 [writeAV w] .exact) := by kernel_rfl
theorem app82 (x : AV) (new : List AV) (k : Tok) (h : Heap) : aApp tab 82 82 false x (.vsl 90 new k) h = aAppend tab 91 false x new h := by kernel_rfl

theorem cpy_new {h : Heap} {x : AV} {l c : List UInt8} {a : AV} (hx : srcElems tab 5 (h ++ [.var 91 (.agg 90 [a, cellAV c])]) x = some (l.map U8)) (hc : c.length = 64) (hl : l.length ≤ 64) :
    aCpy tab 22 (.msl h.length [1] 5 0 64) x (h ++ [.var 91 (.agg 90 [a, cellAV c])]) = some (.int .i64 l.length, h ++ [.var 91 (.agg 90 [a, cellAV (l ++ c.drop l.length)])]) := by
  simp only [aCpy, td22, tu5, hx, aCopy]
  have e : (l.map U8).take l.length = l.map U8 := List.take_of_length_le (by simp)
  simp [rowGet, objGet, getP, cellAV, rowSet, objSet, setP, hc, Nat.min_eq_left hl, e]

theorem write90 (n : Nat) (l : List UInt8) : AV.agg 90 [.int .i64 n, cellAV l] = writeAV (n, l) := rfl

def Dk.add (d : Dk) (w : Nat × List UInt8) : Dk := ⟨d.lasts, d.loose ++ [w], d.fuse, d.down⟩
def Dk.write (d : Dk) (at' : Int) (b : List UInt8) : Int × Dk :=
  if ¬ d.has at' ∨ 64 < b.length then (1, d)
  else if d.burn.down then (4, d.burn)
  else (0, d.burn.add (at'.toNat, pad b))

section
variable {S U : Obs} {p r : Nat} {h : Heap} {d : Dk} (D : Dsk S h p r d) {at' : Int} {x : AV} {b : List UInt8} (k : Nat)

theorem wn0 (p : Nat) (at' : Int) (x : AV) : ([dp p, .int .i64 at', x] ++ List.replicate (36 - [dp p, .int .i64 at', x].length) AV.undef) = st 36 [(0, dp p), (1, .int .i64 at'), (2, x)] := rfl

include D in
theorem write_no (h1 : ¬ d.has at') : exFn C0 E0 (k + 3) false 17 [dp p, .int .i64 at', x] h = some (.int .i64 1, h) := by
  have e0 : decide (d.has at') = false := decide_eq_false h1
  refine exFn_of e17 ?_
  rw [fnK, wn0, s17]
  simp -implicitDefEqProofs only [↓runK_seq, runK_seq, ↓runK_cond, runK_cond, ↓runK_block, runK_block, ↓runK_loop, runK_loop, ↓runK_skip, runK_skip, ↓runK_ret, runK_ret, ↓runK_exit, runK_exit, ↓seqE_n, seqE_n, ↓seqE_e, seqE_e, ↓seqE_r, seqE_r, ↓blkE_n, blkE_n, ↓blkE_e, blkE_e, ↓blkE_r, blkE_r, ↓retK_n, retK_n, ↓retK_r, retK_r, ↓aCall_fn, aCall_fn, ↓bnd_s, bnd_s, ↓bnd2_s, bnd2_s, ↓onB_t, onB_t, ↓onB_f, onB_f, ↓onG_tt, onG_tt, ↓onG_tf, onG_tf, ↓onG_ft, onG_ft, ↓onG_ff, onG_ff, ↓onG_s, onG_s, ↓onT_t, onT_t, ↓aPick_t, aPick_t, ↓aPick_f, aPick_f, decide_true, decide_false, st_tmp, results1, results2, List.lookup_cons, List.lookup_nil, Nat.reduceBEq, Bool.false_eq_true, ↓reduceIte, BEq.rfl, Nat.reduceLT, Option.getD_some, Option.getD_none, ↓r17_0, r17_0, ↓r17_1, r17_1, J17_1_0, J17_1_1, J17_1_2, ↓r17_2, r17_2, ↓r17_3, r17_3, ↓r17_4, r17_4, ↓r17_5, r17_5, ↓r17_6, r17_6, ↓r17_7, r17_7, ↓r17_8, r17_8, there_ok D, e0, un_not, Bool.not_false]

include D in
theorem write_long (h1 : d.has at') (hb : By U h x b) (h2 : 64 < b.length) : exFn C0 E0 (k + 3) false 17 [dp p, .int .i64 at', x] h = some (.int .i64 1, h) := by
  have e0 : decide (d.has at') = true := decide_eq_true h1
  have e2 : decide ((64 : Int) < (b.length : Nat)) = true := decide_eq_true (by omega)
  refine exFn_of e17 ?_
  rw [fnK, wn0, s17]
  simp -implicitDefEqProofs only [↓runK_seq, runK_seq, ↓runK_cond, runK_cond, ↓runK_block, runK_block, ↓runK_loop, runK_loop, ↓runK_skip, runK_skip, ↓runK_ret, runK_ret, ↓runK_exit, runK_exit, ↓seqE_n, seqE_n, ↓seqE_e, seqE_e, ↓seqE_r, seqE_r, ↓blkE_n, blkE_n, ↓blkE_e, blkE_e, ↓blkE_r, blkE_r, ↓retK_n, retK_n, ↓retK_r, retK_r, ↓aCall_fn, aCall_fn, ↓bnd_s, bnd_s, ↓bnd2_s, bnd2_s, ↓onB_t, onB_t, ↓onB_f, onB_f, ↓onG_tt, onG_tt, ↓onG_tf, onG_tf, ↓onG_ft, onG_ft, ↓onG_ff, onG_ff, ↓onG_s, onG_s, ↓onT_t, onT_t, ↓aPick_t, aPick_t, ↓aPick_f, aPick_f, decide_true, decide_false, st_tmp, results1, results2, List.lookup_cons, List.lookup_nil, Nat.reduceBEq, Bool.false_eq_true, ↓reduceIte, BEq.rfl, Nat.reduceLT, Option.getD_some, Option.getD_none, ↓r17_0, r17_0, ↓r17_1, r17_1, J17_1_0, J17_1_1, J17_1_2, ↓r17_2, r17_2, ↓r17_3, r17_3, ↓r17_4, r17_4, ↓r17_5, r17_5, ↓r17_6, r17_6, ↓r17_7, r17_7, ↓r17_8, r17_8, there_ok D, e0, un_not, Bool.not_true, hb.len, bin_gtr, e2]

include D in
theorem write_down (h1 : d.has at') (hb : By U h x b) (h2 : ¬ 64 < b.length) {h' : Heap} (b1 : exFn C0 E0 (k + 2) false 50 [dp p] h = some (.bool false, h')) :
    exFn C0 E0 (k + 3) false 17 [dp p, .int .i64 at', x] h = some (.int .i64 4, h') := by
  have e0 : decide (d.has at') = true := decide_eq_true h1
  have e2 : decide ((64 : Int) < (b.length : Nat)) = false := decide_eq_false (by omega)
  refine exFn_of e17 ?_
  rw [fnK, wn0, s17]
  simp -implicitDefEqProofs only [↓runK_seq, runK_seq, ↓runK_cond, runK_cond, ↓runK_block, runK_block, ↓runK_loop, runK_loop, ↓runK_skip, runK_skip, ↓runK_ret, runK_ret, ↓runK_exit, runK_exit, ↓seqE_n, seqE_n, ↓seqE_e, seqE_e, ↓seqE_r, seqE_r, ↓blkE_n, blkE_n, ↓blkE_e, blkE_e, ↓blkE_r, blkE_r, ↓retK_n, retK_n, ↓retK_r, retK_r, ↓aCall_fn, aCall_fn, ↓bnd_s, bnd_s, ↓bnd2_s, bnd2_s, ↓onB_t, onB_t, ↓onB_f, onB_f, ↓onG_tt, onG_tt, ↓onG_tf, onG_tf, ↓onG_ft, onG_ft, ↓onG_ff, onG_ff, ↓onG_s, onG_s, ↓onT_t, onT_t, ↓aPick_t, aPick_t, ↓aPick_f, aPick_f, decide_true, decide_false, st_tmp, results1, results2, List.lookup_cons, List.lookup_nil, Nat.reduceBEq, Bool.false_eq_true, ↓reduceIte, BEq.rfl, Nat.reduceLT, Option.getD_some, Option.getD_none, ↓r17_0, r17_0, ↓r17_1, r17_1, J17_1_0, J17_1_1, J17_1_2, ↓r17_2, r17_2, ↓r17_3, r17_3, ↓r17_4, r17_4, ↓r17_5, r17_5, ↓r17_6, r17_6, ↓r17_7, r17_7, ↓r17_8, r17_8, there_ok D, e0, un_not, Bool.not_true, hb.len, bin_gtr, e2, b1, Bool.not_false]

theorem drop_rep (n : Nat) : (List.replicate 64 (0 : UInt8)).drop n = List.replicate (64 - n) 0 := List.drop_replicate

theorem Dsk.add {S : Obs} {p r : Nat} {h h' : Heap} {d : Dk} (D : Dsk S h p r d) {w : Nat × List UInt8} {x : AV} (hw : w.1 < d.lasts.length ∧ w.2.length = 64)
    (ha : Ap 90 S h' x ((d.loose ++ [w]).map writeAV)) (hr : ∀ l, h[r]? = some (.row 88 l) → h'[r]? = some (.row 88 l)) {y : AV} (hp : h'[p]? = some (dv r d.lasts.length y d.fuse d.down)) :
    Dsk S (h'.set p (dv r d.lasts.length x d.fuse d.down)) p r (d.add w) := by
  have hlt : p < h'.length := (List.getElem?_eq_some_iff.1 hp).1
  refine ⟨D.hp, D.hr, ⟨x, by simp [hlt, Dk.add], ?_⟩, fun hne => ?_, D.cells, ?_, D.few⟩
  · exact ha.at hp (fun g e => by cases e) fun i _ hi => List.getElem?_set_ne (by omega)
  · have := hr _ (D.row hne)
    rw [List.getElem?_set_ne]
    · exact this
    · intro e
      subst e
      rw [hp] at this
      cases this
  · intro v hv
    rcases List.mem_append.1 hv with hv | hv
    · exact D.loose v hv
    · simp only [List.mem_singleton] at hv; subst hv; exact hw
end

theorem write_go {S U : Obs} {p r : Nat} {h : Heap} {d : Dk} {at' : Int} {x : AV} {b : List UInt8} (k : Nat) (D : Dsk S h p r d) (up : Up S h) (hb : By U h x b) (hU : ∀ i, i < h.length → U i → ¬ S i)
    (hl : d.loose.length < 2 ^ 30) (h1 : d.has at') (h2 : ¬ 64 < b.length) {h' : Heap} (b1 : exFn C0 E0 (k + 2) false 50 [dp p] h = some (.bool true, h')) (D1 : Dsk S h' p r d.burn) (k1 : Keep S h h') :
    ∃ h'', exFn C0 E0 (k + 3) false 17 [dp p, .int .i64 at', x] h = some (.int .i64 0, h'') ∧ Dsk S h'' p r (d.burn.add (at'.toNat, pad b)) ∧ Keep S h h'' := by
  have e0 : decide (d.has at') = true := decide_eq_true h1
  have e2 : decide ((64 : Int) < (b.length : Nat)) = false := decide_eq_false (by omega)
  have hbl : d.burn.loose.length = d.loose.length := rfl
  obtain ⟨n, rfl⟩ : ∃ n : Nat, at' = n := ⟨at'.toNat, by have := h1.1; omega⟩
  rw [Int.toNat_natCast]
  have up1 := up.keep k1
  have k0 : Keep (From h'.length) h' (h' ++ [.var 91 (writeAV (n, List.replicate 64 0))]) := Keep.app h' _ (Up.fresh h')
  have hb1 := (hb.keep k1 hU).keep k0 fun i hi _ hj => Nat.not_le.2 hi hj
  have cp : aCpy tab 22 (.msl h'.length [1] 5 0 64) x (h' ++ [.var 91 (writeAV (n, List.replicate 64 0))]) = some (.int .i64 b.length, h' ++ [.var 91 (writeAV (n, pad b))]) := by
    have := cpy_new hb1.src List.length_replicate (by omega : b.length ≤ 64)
    rw [drop_rep] at this
    exact this
  have kH : Keep (From h'.length) h' (h' ++ [.var 91 (writeAV (n, pad b))]) := Keep.app h' _ (Up.fresh h')
  have D2 := D1.fresh kH
  have upH := up1.keep kH
  obtain ⟨y, hy, ha⟩ := D2.var
  have hq : (h' ++ [.var 91 (writeAV (n, pad b))])[h'.length]? = some (.var 91 (writeAV (n, pad b))) := by simp
  generalize hH : h' ++ [Obj.var 91 (writeAV (n, pad b))] = H at *
  obtain ⟨y', h3, kk, ap, hyk, ha3, k3, nt⟩ := Ap.append (T := tab) (e := 91) (S := S) (h := H) (x := y) (l := d.burn.loose.map writeAV) (new := [writeAV (n, pad b)]) (by rw [tu91]; exact ha) upH (by simp) (by simp)
    (by simp only [tb91, List.length_map, List.length_singleton, hbl]; omega) (by simp only [List.length_map, List.length_singleton, hbl]; omega) (by simp)
  rw [tu91] at ha3
  have hy3 := nt p _ hy (fun g e => by cases e)
  have hr3 : ∀ l, H[r]? = some (.row 88 l) → h3[r]? = some (.row 88 l) := fun l hl => nt r _ hl (fun g e => by cases e)
  have D3 := D2.add (w := (n, pad b)) ⟨by have := h1.2; simp only [Dk.burn]; omega, by simp [pad]; omega⟩ (by rw [List.map_append]; exact ha3) hr3 hy3
  refine ⟨_, exFn_of e17 ?_, D3, (k1.fresh kH up).trans (k3.trans (Keep.set h3 _ D.hp))⟩
  have sn := store_new (h := h') (t := 91) (ty := 91) (u' := 90) (v := .agg 90 [.int .i64 0, cellAV (List.replicate 64 0)]) (x := writeAV (n, List.replicate 64 0)) (by simp) (fits91 _)
  rw [fnK, wn0, s17]
  simp -implicitDefEqProofs only [↓runK_seq, runK_seq, ↓runK_cond, runK_cond, ↓runK_block, runK_block, ↓runK_loop, runK_loop, ↓runK_skip, runK_skip, ↓runK_ret, runK_ret, ↓runK_exit, runK_exit, ↓seqE_n, seqE_n, ↓seqE_e, seqE_e, ↓seqE_r, seqE_r, ↓blkE_n, blkE_n, ↓blkE_e, blkE_e, ↓blkE_r, blkE_r, ↓retK_n, retK_n, ↓retK_r, retK_r, ↓aCall_fn, aCall_fn, ↓bnd_s, bnd_s, ↓bnd2_s, bnd2_s, ↓onB_t, onB_t, ↓onB_f, onB_f, ↓onG_tt, onG_tt, ↓onG_tf, onG_tf, ↓onG_ft, onG_ft, ↓onG_ff, onG_ff, ↓onG_s, onG_s, ↓onT_t, onT_t, ↓aPick_t, aPick_t, ↓aPick_f, aPick_f, decide_true, decide_false, st_tmp, results1, results2, List.lookup_cons, List.lookup_nil, Nat.reduceBEq, Bool.false_eq_true, ↓reduceIte, BEq.rfl, Nat.reduceLT, Option.getD_some, Option.getD_none, ↓r17_0, r17_0, ↓r17_1, r17_1, J17_1_0, J17_1_1, J17_1_2, ↓r17_2, r17_2, ↓r17_3, r17_3, ↓r17_4, r17_4, ↓r17_5, r17_5, ↓r17_6, r17_6, ↓r17_7, r17_7, ↓r17_8, r17_8, there_ok D, e0, un_not, Bool.not_true, hb.len, bin_gtr, e2, b1, bld91, alloc91, write90, sn, fa91_1, sl89, cp, hH, dp_chk, dpf1, dld1 hy,
    load_var hq (show (90 : Nat) = Tab.und tab 91 by simp), lit82, app82, ap, dst1 hy3 ha3.fits82]

theorem write_ok {S U : Obs} {p r : Nat} {h : Heap} {d : Dk} (D : Dsk S h p r d) (up : Up S h) (at' : Int) {x : AV} {b : List UInt8} (hb : By U h x b) (hU : ∀ i, i < h.length → U i → ¬ S i)
    (hl : d.loose.length < 2 ^ 30) (hf : d.fuse < 2 ^ 63) (k : Nat) :
    ∃ h', exFn C0 E0 (k + 3) false 17 [dp p, .int .i64 at', x] h = some (.int .i64 (d.write at' b).1, h') ∧ Dsk S h' p r (d.write at' b).2 ∧ Keep S h h' := by
  unfold Dk.write
  by_cases h1 : d.has at'
  · by_cases h2 : 64 < b.length
    · rw [if_pos (.inr h2)]
      exact ⟨h, write_long D k h1 hb h2, D, Keep.refl _ _⟩
    · rw [if_neg (fun h => h.elim (fun h => h h1) h2)]
      obtain ⟨h', b1, D1, k1, -, -⟩ := burn_ok D hf false (k + 1)
      cases hdn : d.burn.down
      · rw [hdn] at b1
        exact write_go k D up hb hU hl h1 h2 b1 D1 k1
      · rw [hdn] at b1
        exact ⟨h', write_down D k h1 hb h2 b1, D1, k1⟩
  · rw [if_pos (.inl h1)]
    exact ⟨h, write_no D k h1, D, Keep.refl _ _⟩
end Go.Ax

/- What the regions of some functions hand on. Printed by a program of mine (gen.py). -/
set_option linter.unusedVariables false
namespace Go.Ax
open Go Go.Proofs
/-! ### (*interregnum/sector.Disk).Lasts -/
noncomputable def O20 (i : Nat) : Array Oper := opsOf i (bodyOf Try.f20)
theorem s20 : bodyOf Try.f20 = (.seq (.region 0 (O20 0) false) (.seq (.seq (.region 1 (O20 1) false) (.cond (Go.Operand.tmp 9) (.seq (.region 2 (O20 2) false) .ret) .skip)) (.seq (.region 3 (O20 3) false) .ret))) := by kernel_rfl
theorem e20 : E0 20 = some ⟨18, [4, 5], bodyOf Try.f20⟩ := by kernel_rfl
theorem r20_0 {β : Type} (call : CallF) (md : Bool) (n : Nat) (k : Ex → List AV → Heap → Option β) (x0 x1 : AV) (h : Heap) :
    runK C0 call md 20 n (.region 0 (O20 0) false) k (st 18 [(0, x0), (1, x1)]) h =
    k .normal (st 18 [(0, x0), (1, x1)]) h
  := by kernel_rfl
theorem r20_1 {β : Type} (call : CallF) (md : Bool) (n : Nat) (k : Ex → List AV → Heap → Option β) (x0 x1 : AV) (h : Heap) :
    runK C0 call md 20 n (.region 1 (O20 1) false) k (st 18 [(0, x0), (1, x1)]) h =
    bnd2 (aCall call md (.fn (.func 49) []) [x0, x1] h) fun v1 h2 =>
    bnd (aUn .not v1) fun v3 =>
    k .normal (st 18 [(0, x0), (1, x1), (9, v3)]) h2
  := by kernel_rfl
theorem r20_2 {β : Type} (call : CallF) (md : Bool) (n : Nat) (k : Ex → List AV → Heap → Option β) (x0 x1 x9 : AV) (h : Heap) :
    runK C0 call md 20 n (.region 2 (O20 2) false) k (st 18 [(0, x0), (1, x1), (9, x9)]) h =
    k .normal (st 18 [(4, .nils), (5, (.int .i64 1))]) h
  := by kernel_rfl
theorem r20_3 {β : Type} (call : CallF) (md : Bool) (n : Nat) (k : Ex → List AV → Heap → Option β) (x0 x1 x9 : AV) (h : Heap) :
    runK C0 call md 20 n (.region 3 (O20 3) false) k (st 18 [(0, x0), (1, x1), (9, x9)]) h =
    bnd (aNil x0) fun v1 =>
    bnd (aFieldAddr tab 84 v1 0) fun v2 =>
    bnd (aLoad tab 81 v2 h) fun v3 =>
    bnd (aIndexAddr tab 81 v3 x1) fun v4 =>
    bnd (aSlice tab 89 v4 none none none) fun v5 =>
    bnd2 (aCall call md (.fn (.func 52) []) [v5] h) fun v6 h7 =>
    k .normal (st 18 [(4, v6), (5, (.int .i64 0))]) h7
  := by kernel_rfl
end Go.Ax

/- What the regions of some functions hand on. Printed by a program of mine (gen.py). -/
set_option linter.unusedVariables false
namespace Go.Ax
open Go Go.Proofs
/-! ### (*interregnum/sector.Disk).Pending -/
noncomputable def O53 (i : Nat) : Array Oper := opsOf i (bodyOf Try.f53)
noncomputable def B53_1 : Code := (.seq (.region 5 (O53 5) false) (.seq (.cond (Go.Operand.tmp 14) .skip (.exit 0)) (.seq (.block 1 (.seq (.region 6 (O53 6) false) (.region 7 (O53 7) false))) (.region 8 (O53 8) false))))
theorem s53 : bodyOf Try.f53 = (.seq (.region 0 (O53 0) false) (.seq (.seq (.region 1 (O53 1) false) (.cond (Go.Operand.tmp 7) (.seq (.region 2 (O53 2) false) .ret) .skip)) (.seq (.region 3 (O53 3) false) (.seq (.seq (.region 4 (O53 4) false) (.block 0 (.loop B53_1))) (.seq (.region 9 (O53 9) false) .ret))))) := by kernel_rfl
theorem e53 : E0 53 = some ⟨24, [2], bodyOf Try.f53⟩ := by kernel_rfl
theorem r53_0 {β : Type} (call : CallF) (md : Bool) (n : Nat) (k : Ex → List AV → Heap → Option β) (x0 : AV) (h : Heap) :
    runK C0 call md 53 n (.region 0 (O53 0) false) k (st 24 [(0, x0)]) h =
    k .normal (st 24 [(0, x0)]) h
  := by kernel_rfl
theorem r53_1 {β : Type} (call : CallF) (md : Bool) (n : Nat) (k : Ex → List AV → Heap → Option β) (x0 : AV) (h : Heap) :
    runK C0 call md 53 n (.region 1 (O53 1) false) k (st 24 [(0, x0)]) h =
    bnd (aBinC tab .eql 25 x0 .nilp true) fun v1 =>
    k .normal (st 24 [(0, x0), (7, v1)]) h
  := by kernel_rfl
theorem r53_2 {β : Type} (call : CallF) (md : Bool) (n : Nat) (k : Ex → List AV → Heap → Option β) (x0 x7 : AV) (h : Heap) :
    runK C0 call md 53 n (.region 2 (O53 2) false) k (st 24 [(0, x0), (7, x7)]) h =
    k .normal (st 24 [(2, .nils)]) h
  := by kernel_rfl
theorem r53_3 {β : Type} (call : CallF) (md : Bool) (n : Nat) (k : Ex → List AV → Heap → Option β) (x0 x7 : AV) (h : Heap) :
    runK C0 call md 53 n (.region 3 (O53 3) false) k (st 24 [(0, x0), (7, x7)]) h =
    k .normal (st 24 [(0, x0), (3, .nils)]) h
  := by kernel_rfl
theorem r53_4 {β : Type} (call : CallF) (md : Bool) (n : Nat) (k : Ex → List AV → Heap → Option β) (x0 x3 : AV) (h : Heap) :
    runK C0 call md 53 n (.region 4 (O53 4) false) k (st 24 [(0, x0), (3, x3)]) h =
    bnd (aNil x0) fun v1 =>
    bnd (aFieldAddr tab 84 v1 1) fun v2 =>
    bnd (aLoad tab 82 v2 h) fun v3 =>
    bnd (aLen tab 82 v3) fun v4 =>
    k .normal (st 24 [(3, x3), (11, v3), (12, v4), (13, (.int .i64 0))]) h
  := by kernel_rfl
theorem r53_5 {β : Type} (call : CallF) (md : Bool) (n : Nat) (k : Ex → List AV → Heap → Option β) (x3 x11 x12 x13 : AV) (h : Heap) :
    runK C0 call md 53 n (.region 5 (O53 5) false) k (st 24 [(3, x3), (11, x11), (12, x12), (13, x13)]) h =
    bnd (aBinC tab .lss 3 x13 x12 false) fun v1 =>
    k .normal (st 24 [(3, x3), (11, x11), (12, x12), (13, x13), (14, v1)]) h
  := by kernel_rfl
theorem r53_6 {β : Type} (call : CallF) (md : Bool) (n : Nat) (k : Ex → List AV → Heap → Option β) (x3 x11 x12 x13 x14 : AV) (h : Heap) :
    runK C0 call md 53 n (.region 6 (O53 6) false) k (st 24 [(3, x3), (11, x11), (12, x12), (13, x13), (14, x14)]) h =
    bnd (aIndexAddr tab 82 x11 x13) fun v1 =>
    bnd (aLoad tab 91 v1 h) fun v2 =>
    bnd2 (aAlloc tab 91 h) fun v3 h4 =>
    bnd (aStore tab 91 v3 v2 h4) fun h5 =>
    k .normal (st 24 [(3, x3), (5, v3), (11, x11), (12, x12), (13, x13)]) h5
  := by kernel_rfl
theorem r53_7 {β : Type} (call : CallF) (md : Bool) (n : Nat) (k : Ex → List AV → Heap → Option β) (x3 x5 x11 x12 x13 : AV) (h : Heap) :
    runK C0 call md 53 n (.region 7 (O53 7) false) k (st 24 [(3, x3), (5, x5), (11, x11), (12, x12), (13, x13)]) h =
    bnd (aFieldAddr tab 91 x5 0) fun v1 =>
    bnd (aLoad tab 3 v1 h) fun v2 =>
    bnd (aLit tab 93 1 [(0, v2)]) fun v3 =>
    bnd2 (aApp tab 93 93 md x3 v3 h) fun v4 h5 =>
    k .normal (st 24 [(3, v4), (11, x11), (12, x12), (13, x13)]) h5
  := by kernel_rfl
theorem r53_8 {β : Type} (call : CallF) (md : Bool) (n : Nat) (k : Ex → List AV → Heap → Option β) (x3 x11 x12 x13 : AV) (h : Heap) :
    runK C0 call md 53 n (.region 8 (O53 8) false) k (st 24 [(3, x3), (11, x11), (12, x12), (13, x13)]) h =
    bnd (aBinC tab .add 3 x13 (.int .i64 1) true) fun v1 =>
    k .normal (st 24 [(3, x3), (11, x11), (12, x12), (13, v1)]) h
  := by kernel_rfl
theorem r53_9 {β : Type} (call : CallF) (md : Bool) (n : Nat) (k : Ex → List AV → Heap → Option β) (x3 x11 x12 x13 x14 : AV) (h : Heap) :
    runK C0 call md 53 n (.region 9 (O53 9) false) k (st 24 [(3, x3), (11, x11), (12, x12), (13, x13), (14, x14)]) h =
    k .normal (st 24 [(2, x3)]) h
  := by kernel_rfl
end Go.Ax

/- What the regions of some functions hand on. Printed by a program of mine (gen.py). -/
set_option linter.unusedVariables false
namespace Go.Ax
open Go Go.Proofs
/-! ### (*interregnum/sector.Disk).Read -/
noncomputable def O38 (i : Nat) : Array Oper := opsOf i (bodyOf Try.f38)
noncomputable def B38_1 : Code := (.seq (.seq (.region 3 (O38 3) false) (.cond (Go.Operand.tmp 24) .skip (.exit 0))) (.seq (.block 1 (.seq (.region 5 (O38 5) false) (.cond (Go.Operand.tmp 36) (.seq (.region 6 (O38 6) false) .ret) .skip))) (.region 4 (O38 4) false)))
theorem s38 : bodyOf Try.f38 = (.seq (.region 0 (O38 0) false) (.seq (.region 1 (O38 1) false) (.seq (.seq (.region 2 (O38 2) false) (.block 0 (.loop B38_1))) (.seq (.region 7 (O38 7) false) .ret)))) := by kernel_rfl
theorem e38 : E0 38 = some ⟨48, [4, 5], bodyOf Try.f38⟩ := by kernel_rfl
theorem r38_0 {β : Type} (call : CallF) (md : Bool) (n : Nat) (k : Ex → List AV → Heap → Option β) (x0 x1 : AV) (h : Heap) :
    runK C0 call md 38 n (.region 0 (O38 0) false) k (st 48 [(0, x0), (1, x1)]) h =
    k .normal (st 48 [(0, x0), (1, x1)]) h
  := by kernel_rfl
theorem r38_1 {β : Type} (call : CallF) (md : Bool) (n : Nat) (k : Ex → List AV → Heap → Option β) (x0 x1 : AV) (h : Heap) :
    runK C0 call md 38 n (.region 1 (O38 1) false) k (st 48 [(0, x0), (1, x1)]) h =
    bnd2 (aCall call md (.fn (.func 20) []) [x0, x1] h) fun v1 h2 =>
    bnd (aExtract v1 0) fun v3 =>
    bnd (aExtract v1 1) fun v4 =>
    k .normal (st 48 [(0, x0), (1, x1), (6, v3), (7, v4)]) h2
  := by kernel_rfl
theorem r38_2 {β : Type} (call : CallF) (md : Bool) (n : Nat) (k : Ex → List AV → Heap → Option β) (x0 x1 x6 x7 : AV) (h : Heap) :
    runK C0 call md 38 n (.region 2 (O38 2) false) k (st 48 [(0, x0), (1, x1), (6, x6), (7, x7)]) h =
    bnd2 (aCall call md (.fn (.func 53) []) [x0] h) fun v1 h2 =>
    bnd (aLen tab 93 v1) fun v3 =>
    bnd (aBinC tab .sub 3 v3 (.int .i64 1) true) fun v4 =>
    k .normal (st 48 [(0, x0), (1, x1), (6, x6), (7, x7), (8, v4)]) h2
  := by kernel_rfl
def J38_3_2 {β : Type} (call : CallF) (md : Bool) (k : Ex → List AV → Heap → Option β) (x0 x1 x6 x7 x8 x21 x23 : AV) (h : Heap) : Option β :=
    bnd (aPick x21 x23 (.bool false)) fun v1 =>
    k .normal (st 48 [(0, x0), (1, x1), (6, x6), (7, x7), (8, x8), (24, v1)]) h

theorem j38_3_2 {β : Type} (call : CallF) (md : Bool) (k : Ex → List AV → Heap → Option β) (x0 x1 x6 x7 x8 x19 x20 x21 x22 x23 : AV) (h : Heap) :
    opsK C0 call md 38 (O38 3) ((O38 3).toList.drop 5) (st 48 [(0, x0), (1, x1), (6, x6), (7, x7), (8, x8), (19, x19), (20, x20), (21, x21), (22, x22), (23, x23)]) h (fun tm h => k .normal (clr (C0.keep 38 3) tm) h) = J38_3_2 call md k x0 x1 x6 x7 x8 x21 x23 h := by kernel_rfl
def J38_3_1 {β : Type} (call : CallF) (md : Bool) (k : Ex → List AV → Heap → Option β) (x0 x1 x6 x7 x8 x21 : AV) (h : Heap) : Option β :=
    onG true x21 (
      bnd (aBinC tab .eql 27 x7 (.int .i64 0) true) fun v3 =>
      J38_3_2 call md k x0 x1 x6 x7 x8 x21 v3 h) (
      J38_3_2 call md k x0 x1 x6 x7 x8 x21 .skip h)

theorem g38_3_1 {β : Type} (call : CallF) (md : Bool) (kk : List AV → Heap → Option β) (x0 x1 x6 x7 x8 x19 x20 x21 : AV) (h : Heap) :
    opsK C0 call md 38 (O38 3) (((O38 3).toList.drop 3).take 2) (st 48 [(0, x0), (1, x1), (6, x6), (7, x7), (8, x8), (19, x19), (20, x20), (21, x21)]) h kk =
    onG true x21 (
      bnd (aBinC tab .eql 27 x7 (.int .i64 0) true) fun v4 =>
      kk (st 48 [(0, x0), (1, x1), (6, x6), (7, x7), (8, x8), (19, x19), (20, x20), (21, x21), (22, x7), (23, v4)]) h) (
      kk (st 48 [(0, x0), (1, x1), (6, x6), (7, x7), (8, x8), (19, x19), (20, x20), (21, x21), (22, .skip), (23, .skip)]) h)
  := by cases x21 with | bool b => (cases b <;> kernel_rfl) | _ => kernel_rfl
theorem j38_3_1 {β : Type} (call : CallF) (md : Bool) (k : Ex → List AV → Heap → Option β) (x0 x1 x6 x7 x8 x19 x20 x21 : AV) (h : Heap) :
    opsK C0 call md 38 (O38 3) ((O38 3).toList.drop 3) (st 48 [(0, x0), (1, x1), (6, x6), (7, x7), (8, x8), (19, x19), (20, x20), (21, x21)]) h (fun tm h => k .normal (clr (C0.keep 38 3) tm) h) = J38_3_1 call md k x0 x1 x6 x7 x8 x21 h := by
  have e : ((O38 3).toList.drop 3) = ((O38 3).toList.drop 3).take 2 ++ (O38 3).toList.drop 5 := by kernel_rfl
  rw [show opsK C0 call md 38 (O38 3) ((O38 3).toList.drop 3) = opsK C0 call md 38 (O38 3) (((O38 3).toList.drop 3).take 2 ++ (O38 3).toList.drop 5) from congrArg _ e]
  rw [opsK_append, g38_3_1]
  simp only [j38_3_2]
  rfl
def J38_3_0 {β : Type} (call : CallF) (md : Bool) (k : Ex → List AV → Heap → Option β) (x0 x1 x6 x7 x8 : AV) (h : Heap) : Option β :=
    bnd (aBinC tab .geq 3 x8 (.int .i64 0) true) fun v5 =>
    J38_3_1 call md k x0 x1 x6 x7 x8 v5 h

theorem g38_3_0 {β : Type} (call : CallF) (md : Bool) (kk : List AV → Heap → Option β) (x0 x1 x6 x7 x8 : AV) (h : Heap) :
    opsK C0 call md 38 (O38 3) ((O38 3).toList.take 3) (st 48 [(0, x0), (1, x1), (6, x6), (7, x7), (8, x8)]) h kk =
    bnd (aBinC tab .geq 3 x8 (.int .i64 0) true) fun v6 =>
    kk (st 48 [(0, x0), (1, x1), (6, x6), (7, x7), (8, x8), (19, x8), (20, v6), (21, v6)]) h
  := by kernel_rfl
theorem j38_3_0 {β : Type} (call : CallF) (md : Bool) (k : Ex → List AV → Heap → Option β) (x0 x1 x6 x7 x8 : AV) (h : Heap) :
    opsK C0 call md 38 (O38 3) (O38 3).toList (st 48 [(0, x0), (1, x1), (6, x6), (7, x7), (8, x8)]) h (fun tm h => k .normal (clr (C0.keep 38 3) tm) h) = J38_3_0 call md k x0 x1 x6 x7 x8 h := by
  have e : (O38 3).toList = (O38 3).toList.take 3 ++ (O38 3).toList.drop 3 := by kernel_rfl
  rw [show opsK C0 call md 38 (O38 3) (O38 3).toList = opsK C0 call md 38 (O38 3) ((O38 3).toList.take 3 ++ (O38 3).toList.drop 3) from congrArg _ e]
  rw [opsK_append, g38_3_0]
  simp only [j38_3_1]
  rfl
theorem r38_3 {β : Type} (call : CallF) (md : Bool) (n : Nat) (k : Ex → List AV → Heap → Option β) (x0 x1 x6 x7 x8 : AV) (h : Heap) :
    runK C0 call md 38 n (.region 3 (O38 3) false) k (st 48 [(0, x0), (1, x1), (6, x6), (7, x7), (8, x8)]) h = J38_3_0 call md k x0 x1 x6 x7 x8 h := (runK_region C0 call md 38 n 3 (O38 3) k (st 48 [(0, x0), (1, x1), (6, x6), (7, x7), (8, x8)]) h).trans (j38_3_0 call md k x0 x1 x6 x7 x8 h)
theorem r38_4 {β : Type} (call : CallF) (md : Bool) (n : Nat) (k : Ex → List AV → Heap → Option β) (x0 x1 x6 x7 x8 x36 : AV) (h : Heap) :
    runK C0 call md 38 n (.region 4 (O38 4) false) k (st 48 [(0, x0), (1, x1), (6, x6), (7, x7), (8, x8), (36, x36)]) h =
    bnd (aBinC tab .sub 3 x8 (.int .i64 1) true) fun v1 =>
    k .normal (st 48 [(0, x0), (1, x1), (6, x6), (7, x7), (8, v1)]) h
  := by kernel_rfl
theorem r38_5 {β : Type} (call : CallF) (md : Bool) (n : Nat) (k : Ex → List AV → Heap → Option β) (x0 x1 x6 x7 x8 x24 : AV) (h : Heap) :
    runK C0 call md 38 n (.region 5 (O38 5) false) k (st 48 [(0, x0), (1, x1), (6, x6), (7, x7), (8, x8), (24, x24)]) h =
    bnd (aNil x0) fun v1 =>
    bnd (aFieldAddr tab 84 v1 1) fun v2 =>
    bnd (aLoad tab 82 v2 h) fun v3 =>
    bnd (aIndexAddr tab 82 v3 x8) fun v4 =>
    bnd (aFieldAddr tab 91 v4 0) fun v5 =>
    bnd (aLoad tab 3 v5 h) fun v6 =>
    bnd (aBinC tab .eql 3 v6 x1 false) fun v7 =>
    k .normal (st 48 [(0, x0), (1, x1), (6, x6), (7, x7), (8, x8), (36, v7)]) h
  := by kernel_rfl
theorem r38_6 {β : Type} (call : CallF) (md : Bool) (n : Nat) (k : Ex → List AV → Heap → Option β) (x0 x1 x6 x7 x8 x36 : AV) (h : Heap) :
    runK C0 call md 38 n (.region 6 (O38 6) false) k (st 48 [(0, x0), (1, x1), (6, x6), (7, x7), (8, x8), (36, x36)]) h =
    bnd (aNil x0) fun v1 =>
    bnd (aFieldAddr tab 84 v1 1) fun v2 =>
    bnd (aLoad tab 82 v2 h) fun v3 =>
    bnd (aIndexAddr tab 82 v3 x8) fun v4 =>
    bnd (aFieldAddr tab 91 v4 1) fun v5 =>
    bnd (aSlice tab 89 v5 none none none) fun v6 =>
    bnd2 (aCall call md (.fn (.func 52) []) [v6] h) fun v7 h8 =>
    k .normal (st 48 [(4, v7), (5, (.int .i64 0))]) h8
  := by kernel_rfl
theorem r38_7 {β : Type} (call : CallF) (md : Bool) (n : Nat) (k : Ex → List AV → Heap → Option β) (x0 x1 x6 x7 x8 x24 : AV) (h : Heap) :
    runK C0 call md 38 n (.region 7 (O38 7) false) k (st 48 [(0, x0), (1, x1), (6, x6), (7, x7), (8, x8), (24, x24)]) h =
    k .normal (st 48 [(4, x6), (5, x7)]) h
  := by kernel_rfl
end Go.Ax

/- sector's disk: Clone, Lasts, Pending, Read. -/
namespace Go.Ax
open Go Go.Proofs

theorem eql_nils (x : AV) (l : List UInt8) (U : Obs) (h : Heap) (b : By U h x l) : ∃ c, aBinC tab .eql 22 x .nils true = some (.bool c) ∧ (c = true → x = .nils ∧ l = []) := by
  rcases b with (⟨rfl, rfl⟩ | ⟨k, rfl⟩) | ⟨r, p, off, L, rfl, -⟩
  · exact ⟨true, by simp [aBinC, aBin, aEq], fun _ => ⟨rfl, rfl⟩⟩
  · exact ⟨false, by simp [aBinC, aBin, aEq], fun h => by cases h⟩
  · exact ⟨false, by simp [aBinC, aBin, aEq], fun h => by cases h⟩

theorem app22s {x y : AV} {l : List AV} {h : Heap} (e : srcElems tab 5 h y = some l) : aApp tab 22 22 false x y h = aAppend tab 5 false x l h := by
  simp [aApp, e]

theorem clone_ok {U : Obs} {x : AV} {l : List UInt8} {h : Heap} (b : By U h x l) (hl : l.length < 2 ^ 39) (k : Nat) :
    ∃ x' h', exFn C0 E0 (k + 1) false 52 [x] h = some (x', h') ∧ ApB (From h.length) h' x' l ∧ Keep (From h.length) h h' := by
  obtain ⟨c, hc, hn⟩ := eql_nils x l U h b
  have n0 : ([x] ++ List.replicate (8 - [x].length) AV.undef) = st 8 [(0, x)] := rfl
  cases c
  · have a0 : ApB (From h.length) h (.vsl 5 [] .exact) [] := .inr ⟨_, rfl, .inl rfl⟩
    cases l with
    | nil =>
      refine ⟨_, h, exFn_of e52 ?_, a0, Keep.refl _ _⟩
      rw [fnK, n0, s52]
      have e : aAppend tab 5 false (.vsl 5 [] .exact) ([] : List AV) h = some (.vsl 5 [] .exact, h) := rfl
      simp -implicitDefEqProofs only [↓runK_seq, runK_seq, ↓runK_cond, runK_cond, ↓runK_block, runK_block, ↓runK_loop, runK_loop, ↓runK_skip, runK_skip, ↓runK_ret, runK_ret, ↓runK_exit, runK_exit, ↓seqE_n, seqE_n, ↓seqE_e, seqE_e, ↓seqE_r, seqE_r, ↓blkE_n, blkE_n, ↓blkE_e, blkE_e, ↓blkE_r, blkE_r, ↓retK_n, retK_n, ↓retK_r, retK_r, ↓aCall_fn, aCall_fn, ↓bnd_s, bnd_s, ↓bnd2_s, bnd2_s, ↓onB_t, onB_t, ↓onB_f, onB_f, ↓onG_tt, onG_tt, ↓onG_tf, onG_tf, ↓onG_ft, onG_ft, ↓onG_ff, onG_ff, ↓onG_s, onG_s, ↓onT_t, onT_t, ↓aPick_t, aPick_t, ↓aPick_f, aPick_f, decide_true, decide_false, st_tmp, results1, results2, List.lookup_cons, List.lookup_nil, Nat.reduceBEq, Bool.false_eq_true, ↓reduceIte, BEq.rfl, Nat.reduceLT, Option.getD_some, Option.getD_none, ↓r52_0, r52_0, ↓r52_1, r52_1, ↓r52_2, r52_2, ↓r52_3, r52_3, hc, lit22_0, app22s b.src, List.map_nil, e]
    | cons y l =>
      obtain ⟨x', h', h1, h2, h3, -⟩ := a0.append (Up.fresh h) (new := y :: l) (by simp) (by simp only [List.length_nil]; omega)
      refine ⟨x', h', exFn_of e52 ?_, h2, h3⟩
      rw [fnK, n0, s52]
      simp -implicitDefEqProofs only [↓runK_seq, runK_seq, ↓runK_cond, runK_cond, ↓runK_block, runK_block, ↓runK_loop, runK_loop, ↓runK_skip, runK_skip, ↓runK_ret, runK_ret, ↓runK_exit, runK_exit, ↓seqE_n, seqE_n, ↓seqE_e, seqE_e, ↓seqE_r, seqE_r, ↓blkE_n, blkE_n, ↓blkE_e, blkE_e, ↓blkE_r, blkE_r, ↓retK_n, retK_n, ↓retK_r, retK_r, ↓aCall_fn, aCall_fn, ↓bnd_s, bnd_s, ↓bnd2_s, bnd2_s, ↓onB_t, onB_t, ↓onB_f, onB_f, ↓onG_tt, onG_tt, ↓onG_tf, onG_tf, ↓onG_ft, onG_ft, ↓onG_ff, onG_ff, ↓onG_s, onG_s, ↓onT_t, onT_t, ↓aPick_t, aPick_t, ↓aPick_f, aPick_f, decide_true, decide_false, st_tmp, results1, results2, List.lookup_cons, List.lookup_nil, Nat.reduceBEq, Bool.false_eq_true, ↓reduceIte, BEq.rfl, Nat.reduceLT, Option.getD_some, Option.getD_none, ↓r52_0, r52_0, ↓r52_1, r52_1, ↓r52_2, r52_2, ↓r52_3, r52_3, hc, lit22_0, app22s b.src, h1]
  · obtain ⟨rfl, rfl⟩ := hn rfl
    refine ⟨.nils, h, exFn_of e52 ?_, .inl ⟨rfl, rfl⟩, Keep.refl _ _⟩
    rw [fnK, n0, s52]
    simp -implicitDefEqProofs only [↓runK_seq, runK_seq, ↓runK_cond, runK_cond, ↓runK_block, runK_block, ↓runK_loop, runK_loop, ↓runK_skip, runK_skip, ↓runK_ret, runK_ret, ↓runK_exit, runK_exit, ↓seqE_n, seqE_n, ↓seqE_e, seqE_e, ↓seqE_r, seqE_r, ↓blkE_n, blkE_n, ↓blkE_e, blkE_e, ↓blkE_r, blkE_r, ↓retK_n, retK_n, ↓retK_r, retK_r, ↓aCall_fn, aCall_fn, ↓bnd_s, bnd_s, ↓bnd2_s, bnd2_s, ↓onB_t, onB_t, ↓onB_f, onB_f, ↓onG_tt, onG_tt, ↓onG_tf, onG_tf, ↓onG_ft, onG_ft, ↓onG_ff, onG_ff, ↓onG_s, onG_s, ↓onT_t, onT_t, ↓aPick_t, aPick_t, ↓aPick_f, aPick_f, decide_true, decide_false, st_tmp, results1, results2, List.lookup_cons, List.lookup_nil, Nat.reduceBEq, Bool.false_eq_true, ↓reduceIte, BEq.rfl, Nat.reduceLT, Option.getD_some, Option.getD_none, ↓r52_0, r52_0, ↓r52_1, r52_1, ↓r52_2, r52_2, ↓r52_3, r52_3, hc]

theorem idx81 (r n i : Nat) (hi : i < n) : aIndexAddr tab 81 (lastsAV r n) (.int .i64 i) = some (.ref r [i] 88) := by
  unfold lastsAV
  rw [if_neg (by omega)]
  simp [aIndexAddr, hi]

def Dk.lastsAt (d : Dk) (i : Int) : List UInt8 × Int := if d.has i then ((d.lasts[i.toNat]?).getD [], 0) else ([], 1)

theorem row_cell {S : Obs} {p r : Nat} {h : Heap} {d : Dk} (D : Dsk S h p r d) {n : Nat} (hn : n < d.lasts.length) : By S h (.msl r [n] 5 0 64) (d.lasts[n]) := by
  have hne : d.lasts ≠ [] := by intro e; rw [e] at hn; simp at hn
  have hl : (d.lasts[n]).length = 64 := D.cells _ (List.getElem_mem hn)
  refine .inr ⟨r, [n], 0, (d.lasts[n]).map U8, by rw [hl], D.hr hne, ?_, by simp, by simp [hl, List.take_of_length_le]⟩
  rw [D.row hne]
  simp [rowGet, objGet, getP, cellAV, hn]

theorem lasts_ok {S : Obs} {p r : Nat} {h : Heap} {d : Dk} (D : Dsk S h p r d) (i : Int) (k : Nat) :
    ∃ x' h', exFn C0 E0 (k + 3) false 20 [dp p, .int .i64 i] h = some (.tuple [x', .int .i64 (d.lastsAt i).2], h') ∧ ApB (From h.length) h' x' (d.lastsAt i).1 ∧ Keep (From h.length) h h' := by
  have n0 : ([dp p, .int .i64 i] ++ List.replicate (18 - [dp p, .int .i64 i].length) AV.undef) = st 18 [(0, dp p), (1, .int .i64 i)] := rfl
  unfold Dk.lastsAt
  by_cases h1 : d.has i
  · have e0 : decide (d.has i) = true := decide_eq_true h1
    rw [if_pos h1]
    obtain ⟨n, rfl⟩ : ∃ n : Nat, i = n := ⟨i.toNat, by have := h1.1; omega⟩
    have hn : n < d.lasts.length := by have := h1.2; omega
    have hl : (d.lasts[n]).length = 64 := D.cells _ (List.getElem_mem hn)
    obtain ⟨x', h', h2, h3, h4⟩ := clone_ok (row_cell D hn) (by omega) (k + 1)
    obtain ⟨x, hx, ha⟩ := D.var
    refine ⟨x', h', exFn_of e20 ?_, by simpa [hn] using h3, h4⟩
    rw [fnK, n0, s20]
    simp -implicitDefEqProofs only [↓runK_seq, runK_seq, ↓runK_cond, runK_cond, ↓runK_block, runK_block, ↓runK_loop, runK_loop, ↓runK_skip, runK_skip, ↓runK_ret, runK_ret, ↓runK_exit, runK_exit, ↓seqE_n, seqE_n, ↓seqE_e, seqE_e, ↓seqE_r, seqE_r, ↓blkE_n, blkE_n, ↓blkE_e, blkE_e, ↓blkE_r, blkE_r, ↓retK_n, retK_n, ↓retK_r, retK_r, ↓aCall_fn, aCall_fn, ↓bnd_s, bnd_s, ↓bnd2_s, bnd2_s, ↓onB_t, onB_t, ↓onB_f, onB_f, ↓onG_tt, onG_tt, ↓onG_tf, onG_tf, ↓onG_ft, onG_ft, ↓onG_ff, onG_ff, ↓onG_s, onG_s, ↓onT_t, onT_t, ↓aPick_t, aPick_t, ↓aPick_f, aPick_f, decide_true, decide_false, st_tmp, results1, results2, List.lookup_cons, List.lookup_nil, Nat.reduceBEq, Bool.false_eq_true, ↓reduceIte, BEq.rfl, Nat.reduceLT, Option.getD_some, Option.getD_none, ↓r20_0, r20_0, ↓r20_1, r20_1, ↓r20_2, r20_2, ↓r20_3, r20_3, there_ok D, e0, un_not, Bool.not_true, dp_chk, dpf0, dld0 hx, idx81 r _ n hn, sl89, h2]
  · have e0 : decide (d.has i) = false := decide_eq_false h1
    rw [if_neg h1]
    refine ⟨.nils, h, exFn_of e20 ?_, .inl ⟨rfl, rfl⟩, Keep.refl _ _⟩
    rw [fnK, n0, s20]
    simp -implicitDefEqProofs only [↓runK_seq, runK_seq, ↓runK_cond, runK_cond, ↓runK_block, runK_block, ↓runK_loop, runK_loop, ↓runK_skip, runK_skip, ↓runK_ret, runK_ret, ↓runK_exit, runK_exit, ↓seqE_n, seqE_n, ↓seqE_e, seqE_e, ↓seqE_r, seqE_r, ↓blkE_n, blkE_n, ↓blkE_e, blkE_e, ↓blkE_r, blkE_r, ↓retK_n, retK_n, ↓retK_r, retK_r, ↓aCall_fn, aCall_fn, ↓bnd_s, bnd_s, ↓bnd2_s, bnd2_s, ↓onB_t, onB_t, ↓onB_f, onB_f, ↓onG_tt, onG_tt, ↓onG_tf, onG_tf, ↓onG_ft, onG_ft, ↓onG_ff, onG_ff, ↓onG_s, onG_s, ↓onT_t, onT_t, ↓aPick_t, aPick_t, ↓aPick_f, aPick_f, decide_true, decide_false, st_tmp, results1, results2, List.lookup_cons, List.lookup_nil, Nat.reduceBEq, Bool.false_eq_true, ↓reduceIte, BEq.rfl, Nat.reduceLT, Option.getD_some, Option.getD_none, ↓r20_0, r20_0, ↓r20_1, r20_1, ↓r20_2, r20_2, ↓r20_3, r20_3, there_ok D, e0, un_not, Bool.not_false]

/-! ### Pending -/
theorem len82 {S : Obs} {h : Heap} {x : AV} {l : List AV} (a : Ap 90 S h x l) : aLen tab 82 x = some (.int .i64 l.length) := by
  rcases a with ⟨rfl, rfl⟩ | ⟨k, rfl, -⟩ <;> simp [aLen]
theorem idx82 {S : Obs} {h : Heap} {x : AV} {l : List (Nat × List UInt8)} (a : Ap 90 S h x (l.map writeAV)) {i : Nat} {w : Nat × List UInt8} (hi : l[i]? = some w) : aIndexAddr tab 82 x (.int .i64 i) = some (.vptr 90 (writeAV w)) := by
  rcases a with ⟨rfl, e⟩ | ⟨k, rfl, -⟩
  · simp at e; subst e; simp at hi
  · simp [aIndexAddr, hi]
theorem load91v (h : Heap) (v : AV) : aLoad tab 91 (.vptr 90 v) h = some v := by simp [aLoad]
theorem lit93 (n : Int) : aLit tab 93 1 [(0, .int .i64 n)] = some (.vsl 3 [.int .i64 n] .exact) := by kernel_rfl
theorem app93 (x : AV) (new : List AV) (k : Tok) (h : Heap) : aApp tab 93 93 false x (.vsl 3 new k) h = aAppend tab 3 false x new h := by kernel_rfl
theorem len93 {S : Obs} {h : Heap} {x : AV} {l : List AV} (a : Ap 3 S h x l) : aLen tab 93 x = some (.int .i64 l.length) := by
  rcases a with ⟨rfl, rfl⟩ | ⟨k, rfl, -⟩ <;> simp [aLen]
theorem wld0 {h : Heap} {q : Nat} {w : Nat × List UInt8} (hq : h[q]? = some (.var 91 (writeAV w))) : aLoad tab 3 (.ref q [0] 3) h = some (.int .i64 w.1) := load_fld (i := 0) hq rfl (by simp)
theorem wld1 {h : Heap} {q : Nat} {w : Nat × List UInt8} (hq : h[q]? = some (.var 91 (writeAV w))) : aLoad tab 89 (.ref q [1] 88) h = some (cellAV w.2) := load_fld (i := 1) hq rfl (by simp)
theorem sn91 (h : Heap) (w : Nat × List UInt8) : aStore tab 91 (.ref h.length [] 90) (writeAV w) (h ++ [.var 91 (.agg 90 [.int .i64 0, cellAV (List.replicate 64 0)])]) = some (h ++ [.var 91 (writeAV w)]) :=
  store_new (by simp) (fits91 _)

abbrev atsAV (l : List (Nat × List UInt8)) : List AV := l.map fun w => .int .i64 w.1

theorem pend_loop {S : Obs} {h0 : Heap} {y : AV} {L : List (Nat × List UInt8)} (hy : Ap 90 S h0 y (L.map writeAV)) (hL : L.length < 2 ^ 30) (call : CallF) (N : Nat) {U : Obs} :
    ∀ (m i n : Nat) (acc : AV) (h : Heap), i + m = L.length → m < n → Ap 3 U h acc (atsAV (L.take i)) → Up U h →
    ∃ acc' h', (∀ K : Ex → List AV → Heap → Option (AV × Heap), loopK (fun next => runK C0 call false 53 N B53_1 (seqE next K)) n (st 24 [(3, acc), (11, y), (12, .int .i64 L.length), (13, .int .i64 i)]) h =
      K (.exit 0) (st 24 [(3, acc'), (11, y), (12, .int .i64 L.length), (13, .int .i64 L.length), (14, .bool false)]) h') ∧ Ap 3 U h' acc' (atsAV L) ∧ Keep U h h' := by
  intro m
  induction m with
  | zero =>
    intro i n acc h hi hn ha _
    obtain ⟨n, rfl⟩ : ∃ j, n = j + 1 := ⟨n - 1, by omega⟩
    obtain rfl : i = L.length := by omega
    refine ⟨acc, h, fun K => ?_, by simpa using ha, Keep.refl _ _⟩
    rw [loopK_succ]
    generalize loopK (fun next => runK C0 call false 53 N B53_1 (seqE next K)) n = Lp
    have e : decide (((L.length : Nat) : Int) < (L.length : Nat)) = false := decide_eq_false (by omega)
    simp -implicitDefEqProofs only [B53_1, ↓runK_seq, runK_seq, ↓runK_cond, runK_cond, ↓runK_block, runK_block, ↓runK_loop, runK_loop, ↓runK_skip, runK_skip, ↓runK_ret, runK_ret, ↓runK_exit, runK_exit, ↓seqE_n, seqE_n, ↓seqE_e, seqE_e, ↓seqE_r, seqE_r, ↓blkE_n, blkE_n, ↓blkE_e, blkE_e, ↓blkE_r, blkE_r, ↓retK_n, retK_n, ↓retK_r, retK_r, ↓aCall_fn, aCall_fn, ↓bnd_s, bnd_s, ↓bnd2_s, bnd2_s, ↓onB_t, onB_t, ↓onB_f, onB_f, ↓onG_tt, onG_tt, ↓onG_tf, onG_tf, ↓onG_ft, onG_ft, ↓onG_ff, onG_ff, ↓onG_s, onG_s, ↓onT_t, onT_t, ↓aPick_t, aPick_t, ↓aPick_f, aPick_f, decide_true, decide_false, st_tmp, results1, results2, List.lookup_cons, List.lookup_nil, Nat.reduceBEq, Bool.false_eq_true, ↓reduceIte, BEq.rfl, Nat.reduceLT, Option.getD_some, Option.getD_none, ↓r53_0, r53_0, ↓r53_1, r53_1, ↓r53_2, r53_2, ↓r53_3, r53_3, ↓r53_4, r53_4, ↓r53_5, r53_5, ↓r53_6, r53_6, ↓r53_7, r53_7, ↓r53_8, r53_8, ↓r53_9, r53_9, bin_lss, e]
  | succ m ih =>
    intro i n acc h hi hn ha up
    obtain ⟨n, rfl⟩ : ∃ j, n = j + 1 := ⟨n - 1, by omega⟩
    have hlt : i < L.length := by omega
    have hw : L[i]? = some L[i] := List.getElem?_eq_getElem hlt
    have e : decide (((i : Nat) : Int) < (L.length : Nat)) = true := decide_eq_true (by omega)
    have wr : IntKind.i64.wrap ((i : Int) + 1) = ((i + 1 : Nat) : Int) := by rw [wrap_i64] <;> omega
    have k1 : Keep (From h.length) h (h ++ [.var 91 (writeAV L[i])]) := Keep.app h _ (Up.fresh h)
    have hq : (h ++ [.var 91 (writeAV L[i])])[h.length]? = some (.var 91 (writeAV L[i])) := by simp
    have hsn := sn91 h L[i]
    have ha1 := ha.fresh k1
    have up1 := up.keep k1
    have kk := k1.up up
    generalize h ++ [Obj.var 91 (writeAV L[i])] = H at *
    obtain ⟨acc', h2, kk', ap, -, ha2, k2, -⟩ := Ap.append (T := tab) (e := 3) (S := U) (h := H) (x := acc) (l := atsAV (L.take i)) (new := [.int .i64 (L[i].1 : Nat)]) (by rw [tu3]; exact ha1) up1 (by simp) (by simp)
      (by simp only [tb3, List.length_map, List.length_singleton, List.length_take]; omega) (by simp only [List.length_map, List.length_singleton, List.length_take]; omega) (by simp)
    rw [tu3] at ha2
    have ha3 : Ap 3 U h2 acc' (atsAV (L.take (i + 1))) := by
      have e3 : atsAV (L.take (i + 1)) = atsAV (L.take i) ++ [.int .i64 (L[i].1 : Nat)] := by
        unfold atsAV; rw [List.take_add_one, hw, List.map_append]; rfl
      rw [e3]; exact ha2
    obtain ⟨acc'', h3, h4, h5, h6⟩ := ih (i + 1) n acc' h2 (by omega) (by omega) ha3 (up1.keep k2)
    refine ⟨acc'', h3, fun K => ?_, h5, (kk.trans k2).trans h6⟩
    rw [loopK_succ, ← h4 K]
    generalize loopK (fun next => runK C0 call false 53 N B53_1 (seqE next K)) n = Lp
    simp -implicitDefEqProofs only [B53_1, ↓runK_seq, runK_seq, ↓runK_cond, runK_cond, ↓runK_block, runK_block, ↓runK_loop, runK_loop, ↓runK_skip, runK_skip, ↓runK_ret, runK_ret, ↓runK_exit, runK_exit, ↓seqE_n, seqE_n, ↓seqE_e, seqE_e, ↓seqE_r, seqE_r, ↓blkE_n, blkE_n, ↓blkE_e, blkE_e, ↓blkE_r, blkE_r, ↓retK_n, retK_n, ↓retK_r, retK_r, ↓aCall_fn, aCall_fn, ↓bnd_s, bnd_s, ↓bnd2_s, bnd2_s, ↓onB_t, onB_t, ↓onB_f, onB_f, ↓onG_tt, onG_tt, ↓onG_tf, onG_tf, ↓onG_ft, onG_ft, ↓onG_ff, onG_ff, ↓onG_s, onG_s, ↓onT_t, onT_t, ↓aPick_t, aPick_t, ↓aPick_f, aPick_f, decide_true, decide_false, st_tmp, results1, results2, List.lookup_cons, List.lookup_nil, Nat.reduceBEq, Bool.false_eq_true, ↓reduceIte, BEq.rfl, Nat.reduceLT, Option.getD_some, Option.getD_none, ↓r53_0, r53_0, ↓r53_1, r53_1, ↓r53_2, r53_2, ↓r53_3, r53_3, ↓r53_4, r53_4, ↓r53_5, r53_5, ↓r53_6, r53_6, ↓r53_7, r53_7, ↓r53_8, r53_8, ↓r53_9, r53_9, bin_lss, e, idx82 hy hw, load91v, alloc91, hsn, fa91_0, wld0 hq, lit93, app93, ap, bin_add, wr]

theorem pending_ok {S : Obs} {p r : Nat} {h : Heap} {d : Dk} (D : Dsk S h p r d) (hl : d.loose.length < 2 ^ 30) (k : Nat) (hk : d.loose.length < k) :
    ∃ x' h', exFn C0 E0 (k + 1) false 53 [dp p] h = some (x', h') ∧ Ap 3 (From h.length) h' x' (atsAV d.loose) ∧ Keep (From h.length) h h' := by
  obtain ⟨x, hx, ha⟩ := D.var
  have n0 : ([dp p] ++ List.replicate (24 - [dp p].length) AV.undef) = st 24 [(0, dp p)] := rfl
  have hlen := len82 ha
  rw [List.length_map] at hlen
  obtain ⟨x', h', h1, h2, h3⟩ := pend_loop ha hl (exFn C0 E0 k) k d.loose.length 0 k .nils h (by omega) hk (.inl ⟨rfl, rfl⟩) (Up.fresh h)
  rw [show ((0 : Nat) : Int) = 0 from rfl] at h1
  refine ⟨x', h', exFn_of e53 ?_, h2, h3⟩
  rw [fnK, n0, s53]
  simp -implicitDefEqProofs only [↓runK_seq, runK_seq, ↓runK_cond, runK_cond, ↓runK_block, runK_block, ↓runK_loop, runK_loop, ↓runK_skip, runK_skip, ↓runK_ret, runK_ret, ↓runK_exit, runK_exit, ↓seqE_n, seqE_n, ↓seqE_e, seqE_e, ↓seqE_r, seqE_r, ↓blkE_n, blkE_n, ↓blkE_e, blkE_e, ↓blkE_r, blkE_r, ↓retK_n, retK_n, ↓retK_r, retK_r, ↓aCall_fn, aCall_fn, ↓bnd_s, bnd_s, ↓bnd2_s, bnd2_s, ↓onB_t, onB_t, ↓onB_f, onB_f, ↓onG_tt, onG_tt, ↓onG_tf, onG_tf, ↓onG_ft, onG_ft, ↓onG_ff, onG_ff, ↓onG_s, onG_s, ↓onT_t, onT_t, ↓aPick_t, aPick_t, ↓aPick_f, aPick_f, decide_true, decide_false, st_tmp, results1, results2, List.lookup_cons, List.lookup_nil, Nat.reduceBEq, Bool.false_eq_true, ↓reduceIte, BEq.rfl, Nat.reduceLT, Option.getD_some, Option.getD_none, ↓r53_0, r53_0, ↓r53_1, r53_1, ↓r53_2, r53_2, ↓r53_3, r53_3, ↓r53_4, r53_4, ↓r53_5, r53_5, ↓r53_6, r53_6, ↓r53_7, r53_7, ↓r53_8, r53_8, ↓r53_9, r53_9, dp_nil, dp_chk, dpf1, dld1 hx, hlen]
  rw [h1]
  simp -implicitDefEqProofs only [↓runK_seq, runK_seq, ↓runK_cond, runK_cond, ↓runK_block, runK_block, ↓runK_loop, runK_loop, ↓runK_skip, runK_skip, ↓runK_ret, runK_ret, ↓runK_exit, runK_exit, ↓seqE_n, seqE_n, ↓seqE_e, seqE_e, ↓seqE_r, seqE_r, ↓blkE_n, blkE_n, ↓blkE_e, blkE_e, ↓blkE_r, blkE_r, ↓retK_n, retK_n, ↓retK_r, retK_r, ↓aCall_fn, aCall_fn, ↓bnd_s, bnd_s, ↓bnd2_s, bnd2_s, ↓onB_t, onB_t, ↓onB_f, onB_f, ↓onG_tt, onG_tt, ↓onG_tf, onG_tf, ↓onG_ft, onG_ft, ↓onG_ff, onG_ff, ↓onG_s, onG_s, ↓onT_t, onT_t, ↓aPick_t, aPick_t, ↓aPick_f, aPick_f, decide_true, decide_false, st_tmp, results1, results2, List.lookup_cons, List.lookup_nil, Nat.reduceBEq, Bool.false_eq_true, ↓reduceIte, BEq.rfl, Nat.reduceLT, Option.getD_some, Option.getD_none, ↓r53_0, r53_0, ↓r53_1, r53_1, ↓r53_2, r53_2, ↓r53_3, r53_3, ↓r53_4, r53_4, ↓r53_5, r53_5, ↓r53_6, r53_6, ↓r53_7, r53_7, ↓r53_8, r53_8, ↓r53_9, r53_9]

/-! ### Read -/
/-- What lands on the sectors. -/
def land (l : List (List UInt8)) (ws : List (Nat × List UInt8)) : List (List UInt8) := ws.foldl (fun l w => l.set w.1 w.2) l

theorem land_length : ∀ (ws : List (Nat × List UInt8)) (l : List (List UInt8)), (land l ws).length = l.length
  | [], _ => rfl
  | w :: ws, l => by rw [land, List.foldl_cons]; exact (land_length ws _).trans (by simp)
theorem land_snoc (l : List (List UInt8)) (ws : List (Nat × List UInt8)) (w : Nat × List UInt8) : land l (ws ++ [w]) = (land l ws).set w.1 w.2 := by
  simp [land]
theorem land_cells : ∀ (ws : List (Nat × List UInt8)) (l : List (List UInt8)), (∀ b ∈ l, b.length = 64) → (∀ w ∈ ws, w.2.length = 64) → ∀ b ∈ land l ws, b.length = 64
  | [], _, h, _ => h
  | w :: ws, l, h, hw => by
    rw [land, List.foldl_cons]
    refine land_cells ws _ (fun b hb => ?_) fun v hv => hw v (List.mem_cons_of_mem _ hv)
    rcases List.mem_or_eq_of_mem_set hb with hb | rfl
    · exact h b hb
    · exact hw w List.mem_cons_self

/-- All sectors, as they are read. -/
def Dk.now (d : Dk) : List (List UInt8) := land d.lasts d.loose
def Dk.read (d : Dk) (i : Int) : List UInt8 × Int := if d.has i then ((d.now[i.toNat]?).getD [], 0) else ([], 1)

theorem fa91v_0 (w : Nat × List UInt8) : aFieldAddr tab 91 (.vptr 90 (writeAV w)) 0 = some (.vptr 3 (.int .i64 w.1)) := by simp [aFieldAddr, writeAV]
theorem fa91v_1 (w : Nat × List UInt8) : aFieldAddr tab 91 (.vptr 90 (writeAV w)) 1 = some (.vptr 88 (cellAV w.2)) := by simp [aFieldAddr, writeAV]
theorem load3v (h : Heap) (v : AV) : aLoad tab 3 (.vptr 3 v) h = some v := by simp [aLoad]

theorem read_loop {S U : Obs} {p r : Nat} {h : Heap} {d : Dk} (D : Dsk S h p r d) (up : Up U h) (hl : d.loose.length < 2 ^ 30) (i : Nat) (b : AV) (hb : ApB U h b ((d.lasts[i]?).getD [])) (N : Nat) (hi : i < d.lasts.length) :
    ∀ (m n : Nat), m ≤ d.loose.length → m < n →
    ∃ x' h', loopK (fun next => runK C0 (exFn C0 E0 (N + 1)) false 38 (N + 1) B38_1 (seqE next (blkE 0 (seqE (runK C0 (exFn C0 E0 (N + 1)) false 38 (N + 1) (.seq (.region 7 (O38 7) false) .ret) (retK [4, 5])) (retK [4, 5])))))
      n (st 48 [(0, dp p), (1, .int .i64 i), (6, b), (7, .int .i64 0), (8, .int .i64 ((m : Int) - 1))]) h = some (.tuple [x', .int .i64 0], h') ∧
      ApB U h' x' (((land d.lasts (d.loose.take m))[i]?).getD []) ∧ Keep U h h' := by
  obtain ⟨x, hx, ha⟩ := D.var
  intro m
  induction m with
  | zero =>
    intro n hm hn
    obtain ⟨n, rfl⟩ : ∃ j, n = j + 1 := ⟨n - 1, by omega⟩
    refine ⟨b, h, ?_, by simpa [land] using hb, Keep.refl _ _⟩
    rw [loopK_succ]
    generalize loopK (_ : (List AV → Heap → Option (AV × Heap)) → List AV → Heap → Option (AV × Heap)) n = Lp
    have e : decide ((0 : Int) ≤ ((0 : Nat) : Int) - 1) = false := by decide
    simp -implicitDefEqProofs only [B38_1, ↓runK_seq, runK_seq, ↓runK_cond, runK_cond, ↓runK_block, runK_block, ↓runK_loop, runK_loop, ↓runK_skip, runK_skip, ↓runK_ret, runK_ret, ↓runK_exit, runK_exit, ↓seqE_n, seqE_n, ↓seqE_e, seqE_e, ↓seqE_r, seqE_r, ↓blkE_n, blkE_n, ↓blkE_e, blkE_e, ↓blkE_r, blkE_r, ↓retK_n, retK_n, ↓retK_r, retK_r, ↓aCall_fn, aCall_fn, ↓bnd_s, bnd_s, ↓bnd2_s, bnd2_s, ↓onB_t, onB_t, ↓onB_f, onB_f, ↓onG_tt, onG_tt, ↓onG_tf, onG_tf, ↓onG_ft, onG_ft, ↓onG_ff, onG_ff, ↓onG_s, onG_s, ↓onT_t, onT_t, ↓aPick_t, aPick_t, ↓aPick_f, aPick_f, decide_true, decide_false, st_tmp, results1, results2, List.lookup_cons, List.lookup_nil, Nat.reduceBEq, Bool.false_eq_true, ↓reduceIte, BEq.rfl, Nat.reduceLT, Option.getD_some, Option.getD_none, ↓r38_0, r38_0, ↓r38_1, r38_1, ↓r38_2, r38_2, ↓r38_3, r38_3, J38_3_0, J38_3_1, J38_3_2, ↓r38_4, r38_4, ↓r38_5, r38_5, ↓r38_6, r38_6, ↓r38_7, r38_7, bin_geq, e]
  | succ m ih =>
    intro n hm hn
    obtain ⟨n, rfl⟩ : ∃ j, n = j + 1 := ⟨n - 1, by omega⟩
    have hlt : m < d.loose.length := by omega
    have hw : d.loose[m]? = some d.loose[m] := List.getElem?_eq_getElem hlt
    have hwl := D.loose _ (List.getElem_mem hlt)
    have e8 : (((m + 1 : Nat) : Int) - 1) = (m : Int) := by omega
    rw [e8]
    have e : decide ((0 : Int) ≤ (m : Int)) = true := decide_eq_true (by omega)
    have wr : IntKind.i64.wrap ((m : Int) - 1) = (m : Int) - 1 := by rw [wrap_i64] <;> omega
    have tk : d.loose.take (m + 1) = d.loose.take m ++ [d.loose[m]] := by rw [List.take_add_one, hw]; rfl
    rw [tk, land_snoc]
    generalize d.loose[m] = w at *
    by_cases hwi : w.1 = i
    · have e1 : decide (((w.1 : Nat) : Int) = (i : Nat)) = true := decide_eq_true (by omega)
      have bs : By U h (.vsl 5 (w.2.map U8) .none) w.2 := .inl (.inr ⟨_, rfl⟩)
      obtain ⟨x', h', h1, h2, h3⟩ := clone_ok bs (by omega) N
      have sl := sl89v (w.2.map U8) (by simp [hwl.2])
      have hc : ((((land d.lasts (d.loose.take m)).set w.1 w.2)[i]?).getD []) = w.2 := by
        rw [hwi, List.getElem?_set_self (by rw [land_length]; exact hi)]; rfl
      refine ⟨x', h', ?_, by rw [hc]; exact Ap.mono h2 fun j hj => up j hj, h3.up up⟩
      rw [loopK_succ]
      generalize loopK (_ : (List AV → Heap → Option (AV × Heap)) → List AV → Heap → Option (AV × Heap)) n = Lp
      simp -implicitDefEqProofs only [B38_1, ↓runK_seq, runK_seq, ↓runK_cond, runK_cond, ↓runK_block, runK_block, ↓runK_loop, runK_loop, ↓runK_skip, runK_skip, ↓runK_ret, runK_ret, ↓runK_exit, runK_exit, ↓seqE_n, seqE_n, ↓seqE_e, seqE_e, ↓seqE_r, seqE_r, ↓blkE_n, blkE_n, ↓blkE_e, blkE_e, ↓blkE_r, blkE_r, ↓retK_n, retK_n, ↓retK_r, retK_r, ↓aCall_fn, aCall_fn, ↓bnd_s, bnd_s, ↓bnd2_s, bnd2_s, ↓onB_t, onB_t, ↓onB_f, onB_f, ↓onG_tt, onG_tt, ↓onG_tf, onG_tf, ↓onG_ft, onG_ft, ↓onG_ff, onG_ff, ↓onG_s, onG_s, ↓onT_t, onT_t, ↓aPick_t, aPick_t, ↓aPick_f, aPick_f, decide_true, decide_false, st_tmp, results1, results2, List.lookup_cons, List.lookup_nil, Nat.reduceBEq, Bool.false_eq_true, ↓reduceIte, BEq.rfl, Nat.reduceLT, Option.getD_some, Option.getD_none, ↓r38_0, r38_0, ↓r38_1, r38_1, ↓r38_2, r38_2, ↓r38_3, r38_3, J38_3_0, J38_3_1, J38_3_2, ↓r38_4, r38_4, ↓r38_5, r38_5, ↓r38_6, r38_6, ↓r38_7, r38_7, bin_geq, e, bin_eql, dp_chk, dpf1, dld1 hx, idx82 ha hw, fa91v_0, load3v, e1, fa91v_1, cellAV, sl, h1]
    · have e1 : decide (((w.1 : Nat) : Int) = (i : Nat)) = false := decide_eq_false (by omega)
      obtain ⟨x', h', h1, h2, h3⟩ := ih n (by omega) (by omega)
      have hc : (((land d.lasts (d.loose.take m)).set w.1 w.2)[i]?) = (land d.lasts (d.loose.take m))[i]? := List.getElem?_set_ne hwi
      refine ⟨x', h', ?_, by rw [hc]; exact h2, h3⟩
      rw [loopK_succ, ← h1]
      generalize loopK (_ : (List AV → Heap → Option (AV × Heap)) → List AV → Heap → Option (AV × Heap)) n = Lp
      simp -implicitDefEqProofs only [B38_1, ↓runK_seq, runK_seq, ↓runK_cond, runK_cond, ↓runK_block, runK_block, ↓runK_loop, runK_loop, ↓runK_skip, runK_skip, ↓runK_ret, runK_ret, ↓runK_exit, runK_exit, ↓seqE_n, seqE_n, ↓seqE_e, seqE_e, ↓seqE_r, seqE_r, ↓blkE_n, blkE_n, ↓blkE_e, blkE_e, ↓blkE_r, blkE_r, ↓retK_n, retK_n, ↓retK_r, retK_r, ↓aCall_fn, aCall_fn, ↓bnd_s, bnd_s, ↓bnd2_s, bnd2_s, ↓onB_t, onB_t, ↓onB_f, onB_f, ↓onG_tt, onG_tt, ↓onG_tf, onG_tf, ↓onG_ft, onG_ft, ↓onG_ff, onG_ff, ↓onG_s, onG_s, ↓onT_t, onT_t, ↓aPick_t, aPick_t, ↓aPick_f, aPick_f, decide_true, decide_false, st_tmp, results1, results2, List.lookup_cons, List.lookup_nil, Nat.reduceBEq, Bool.false_eq_true, ↓reduceIte, BEq.rfl, Nat.reduceLT, Option.getD_some, Option.getD_none, ↓r38_0, r38_0, ↓r38_1, r38_1, ↓r38_2, r38_2, ↓r38_3, r38_3, J38_3_0, J38_3_1, J38_3_2, ↓r38_4, r38_4, ↓r38_5, r38_5, ↓r38_6, r38_6, ↓r38_7, r38_7, bin_geq, e, bin_eql, dp_chk, dpf1, dld1 hx, idx82 ha hw, fa91v_0, load3v, e1, bin_sub, wr]

theorem ext0 (x y : AV) : aExtract (.tuple [x, y]) 0 = some x := rfl
theorem ext1 (x y : AV) : aExtract (.tuple [x, y]) 1 = some y := rfl

theorem read_ok {S : Obs} {p r : Nat} {h : Heap} {d : Dk} (D : Dsk S h p r d) (hl : d.loose.length < 2 ^ 30) (i : Int) (k : Nat) (hk : d.loose.length + 5 < k) :
    ∃ x' h', exFn C0 E0 (k + 1) false 38 [dp p, .int .i64 i] h = some (.tuple [x', .int .i64 (d.read i).2], h') ∧ ApB (From h.length) h' x' (d.read i).1 ∧ Keep (From h.length) h h' := by
  have n0 : ([dp p, .int .i64 i] ++ List.replicate (48 - [dp p, .int .i64 i].length) AV.undef) = st 48 [(0, dp p), (1, .int .i64 i)] := rfl
  obtain ⟨k, rfl⟩ : ∃ j, k = j + 4 := ⟨k - 4, by omega⟩
  obtain ⟨b, h1, l1, l2, l3⟩ := lasts_ok D i (k + 1)
  have up := Up.fresh h
  have D1 := D.fresh l3
  obtain ⟨y, h2, p1, p2, p3⟩ := pending_ok D1 hl (k + 3) (by omega)
  have hlen := len93 p2
  simp only [List.length_map] at hlen
  have up1 := up.keep l3
  have l2' := l2.fresh p3
  have k2 := l3.fresh p3 up
  have wr : IntKind.i64.wrap ((d.loose.length : Int) - 1) = (d.loose.length : Int) - 1 := by rw [wrap_i64] <;> omega
  have D2 := D1.fresh p3
  unfold Dk.read
  by_cases h0 : d.has i
  · rw [if_pos h0]
    unfold Dk.lastsAt at l1 l2'
    rw [if_pos h0] at l1 l2'
    obtain ⟨n, rfl⟩ : ∃ n : Nat, i = n := ⟨i.toNat, by have := h0.1; omega⟩
    have hn : n < d.lasts.length := by have := h0.2; omega
    obtain ⟨x', h', q1, q2, q3⟩ := read_loop D2 (up1.keep p3) hl n b l2' (k + 3) hn d.loose.length (k + 4) (Nat.le_refl _) (by omega)
    rw [List.take_length] at q2
    refine ⟨x', h', exFn_of e38 ?_, q2, k2.trans q3⟩
    rw [fnK, n0, s38]
    simp -implicitDefEqProofs only [↓runK_seq, runK_seq, ↓runK_cond, runK_cond, ↓runK_block, runK_block, ↓runK_loop, runK_loop, ↓runK_skip, runK_skip, ↓runK_ret, runK_ret, ↓runK_exit, runK_exit, ↓seqE_n, seqE_n, ↓seqE_e, seqE_e, ↓seqE_r, seqE_r, ↓blkE_n, blkE_n, ↓blkE_e, blkE_e, ↓blkE_r, blkE_r, ↓retK_n, retK_n, ↓retK_r, retK_r, ↓aCall_fn, aCall_fn, ↓bnd_s, bnd_s, ↓bnd2_s, bnd2_s, ↓onB_t, onB_t, ↓onB_f, onB_f, ↓onG_tt, onG_tt, ↓onG_tf, onG_tf, ↓onG_ft, onG_ft, ↓onG_ff, onG_ff, ↓onG_s, onG_s, ↓onT_t, onT_t, ↓aPick_t, aPick_t, ↓aPick_f, aPick_f, decide_true, decide_false, st_tmp, results1, results2, List.lookup_cons, List.lookup_nil, Nat.reduceBEq, Bool.false_eq_true, ↓reduceIte, BEq.rfl, Nat.reduceLT, Option.getD_some, Option.getD_none, ↓r38_0, r38_0, ↓r38_1, r38_1, ↓r38_2, r38_2, ↓r38_3, r38_3, J38_3_0, J38_3_1, J38_3_2, ↓r38_4, r38_4, ↓r38_5, r38_5, ↓r38_6, r38_6, ↓r38_7, r38_7, l1, ext0, ext1, p1, hlen, bin_sub, wr]
    exact q1
  · rw [if_neg h0]
    unfold Dk.lastsAt at l1 l2'
    rw [if_neg h0] at l1 l2'
    refine ⟨b, h2, exFn_of e38 ?_, l2', k2⟩
    rw [fnK, n0, s38]
    simp -implicitDefEqProofs only [↓runK_seq, runK_seq, ↓runK_cond, runK_cond, ↓runK_block, runK_block, ↓runK_loop, runK_loop, ↓runK_skip, runK_skip, ↓runK_ret, runK_ret, ↓runK_exit, runK_exit, ↓seqE_n, seqE_n, ↓seqE_e, seqE_e, ↓seqE_r, seqE_r, ↓blkE_n, blkE_n, ↓blkE_e, blkE_e, ↓blkE_r, blkE_r, ↓retK_n, retK_n, ↓retK_r, retK_r, ↓aCall_fn, aCall_fn, ↓bnd_s, bnd_s, ↓bnd2_s, bnd2_s, ↓onB_t, onB_t, ↓onB_f, onB_f, ↓onG_tt, onG_tt, ↓onG_tf, onG_tf, ↓onG_ft, onG_ft, ↓onG_ff, onG_ff, ↓onG_s, onG_s, ↓onT_t, onT_t, ↓aPick_t, aPick_t, ↓aPick_f, aPick_f, decide_true, decide_false, st_tmp, results1, results2, List.lookup_cons, List.lookup_nil, Nat.reduceBEq, Bool.false_eq_true, ↓reduceIte, BEq.rfl, Nat.reduceLT, Option.getD_some, Option.getD_none, ↓r38_0, r38_0, ↓r38_1, r38_1, ↓r38_2, r38_2, ↓r38_3, r38_3, J38_3_0, J38_3_1, J38_3_2, ↓r38_4, r38_4, ↓r38_5, r38_5, ↓r38_6, r38_6, ↓r38_7, r38_7, l1, ext0, ext1, p1, hlen, bin_sub, wr]
    rw [loopK_succ]
    generalize loopK (_ : (List AV → Heap → Option (AV × Heap)) → List AV → Heap → Option (AV × Heap)) (k + 3) = Lp
    have e1 : aBinC tab .eql 27 (.int .i64 1) (.int .i64 0) true = some (.bool false) := by simp
    by_cases hm : (0 : Int) ≤ (d.loose.length : Int) - 1
    · have e : decide ((0 : Int) ≤ (d.loose.length : Int) - 1) = true := decide_eq_true hm
      simp -implicitDefEqProofs only [B38_1, ↓runK_seq, runK_seq, ↓runK_cond, runK_cond, ↓runK_block, runK_block, ↓runK_loop, runK_loop, ↓runK_skip, runK_skip, ↓runK_ret, runK_ret, ↓runK_exit, runK_exit, ↓seqE_n, seqE_n, ↓seqE_e, seqE_e, ↓seqE_r, seqE_r, ↓blkE_n, blkE_n, ↓blkE_e, blkE_e, ↓blkE_r, blkE_r, ↓retK_n, retK_n, ↓retK_r, retK_r, ↓aCall_fn, aCall_fn, ↓bnd_s, bnd_s, ↓bnd2_s, bnd2_s, ↓onB_t, onB_t, ↓onB_f, onB_f, ↓onG_tt, onG_tt, ↓onG_tf, onG_tf, ↓onG_ft, onG_ft, ↓onG_ff, onG_ff, ↓onG_s, onG_s, ↓onT_t, onT_t, ↓aPick_t, aPick_t, ↓aPick_f, aPick_f, decide_true, decide_false, st_tmp, results1, results2, List.lookup_cons, List.lookup_nil, Nat.reduceBEq, Bool.false_eq_true, ↓reduceIte, BEq.rfl, Nat.reduceLT, Option.getD_some, Option.getD_none, ↓r38_0, r38_0, ↓r38_1, r38_1, ↓r38_2, r38_2, ↓r38_3, r38_3, J38_3_0, J38_3_1, J38_3_2, ↓r38_4, r38_4, ↓r38_5, r38_5, ↓r38_6, r38_6, ↓r38_7, r38_7, bin_geq, e, e1]
    · have e : decide ((0 : Int) ≤ (d.loose.length : Int) - 1) = false := decide_eq_false hm
      simp -implicitDefEqProofs only [B38_1, ↓runK_seq, runK_seq, ↓runK_cond, runK_cond, ↓runK_block, runK_block, ↓runK_loop, runK_loop, ↓runK_skip, runK_skip, ↓runK_ret, runK_ret, ↓runK_exit, runK_exit, ↓seqE_n, seqE_n, ↓seqE_e, seqE_e, ↓seqE_r, seqE_r, ↓blkE_n, blkE_n, ↓blkE_e, blkE_e, ↓blkE_r, blkE_r, ↓retK_n, retK_n, ↓retK_r, retK_r, ↓aCall_fn, aCall_fn, ↓bnd_s, bnd_s, ↓bnd2_s, bnd2_s, ↓onB_t, onB_t, ↓onB_f, onB_f, ↓onG_tt, onG_tt, ↓onG_tf, onG_tf, ↓onG_ft, onG_ft, ↓onG_ff, onG_ff, ↓onG_s, onG_s, ↓onT_t, onT_t, ↓aPick_t, aPick_t, ↓aPick_f, aPick_f, decide_true, decide_false, st_tmp, results1, results2, List.lookup_cons, List.lookup_nil, Nat.reduceBEq, Bool.false_eq_true, ↓reduceIte, BEq.rfl, Nat.reduceLT, Option.getD_some, Option.getD_none, ↓r38_0, r38_0, ↓r38_1, r38_1, ↓r38_2, r38_2, ↓r38_3, r38_3, J38_3_0, J38_3_1, J38_3_2, ↓r38_4, r38_4, ↓r38_5, r38_5, ↓r38_6, r38_6, ↓r38_7, r38_7, bin_geq, e]
end Go.Ax

/- What the regions of some functions hand on. Printed by a program of mine (gen.py). -/
set_option linter.unusedVariables false
namespace Go.Ax
open Go Go.Proofs
/-! ### (*interregnum/sector.Disk).Flush -/
noncomputable def O18 (i : Nat) : Array Oper := opsOf i (bodyOf Try.f18)
noncomputable def B18_1 : Code := (.seq (.region 6 (O18 6) false) (.seq (.cond (Go.Operand.tmp 18) .skip (.exit 1)) (.seq (.block 2 (.seq (.region 7 (O18 7) false) (.region 8 (O18 8) true))) (.region 9 (O18 9) false))))
theorem s18 : bodyOf Try.f18 = (.seq (.region 0 (O18 0) false) (.seq (.block 0 (.seq (.region 1 (O18 1) false) (.cond (Go.Operand.tmp 5) (.seq (.region 2 (O18 2) false) .ret) (.seq (.region 3 (O18 3) false) (.cond (Go.Operand.tmp 8) (.seq (.region 4 (O18 4) false) .ret) .skip))))) (.seq (.seq (.region 5 (O18 5) false) (.block 1 (.loop B18_1))) (.seq (.region 10 (O18 10) false) (.seq (.region 11 (O18 11) false) .ret))))) := by kernel_rfl
theorem e18 : E0 18 = some ⟨34, [2], bodyOf Try.f18⟩ := by kernel_rfl
theorem r18_0 {β : Type} (call : CallF) (md : Bool) (n : Nat) (k : Ex → List AV → Heap → Option β) (x0 : AV) (h : Heap) :
    runK C0 call md 18 n (.region 0 (O18 0) false) k (st 34 [(0, x0)]) h =
    k .normal (st 34 [(0, x0)]) h
  := by kernel_rfl
theorem r18_1 {β : Type} (call : CallF) (md : Bool) (n : Nat) (k : Ex → List AV → Heap → Option β) (x0 : AV) (h : Heap) :
    runK C0 call md 18 n (.region 1 (O18 1) false) k (st 34 [(0, x0)]) h =
    bnd (aBinC tab .eql 25 x0 .nilp true) fun v1 =>
    k .normal (st 34 [(0, x0), (5, v1)]) h
  := by kernel_rfl
theorem r18_2 {β : Type} (call : CallF) (md : Bool) (n : Nat) (k : Ex → List AV → Heap → Option β) (x0 x5 : AV) (h : Heap) :
    runK C0 call md 18 n (.region 2 (O18 2) false) k (st 34 [(0, x0), (5, x5)]) h =
    k .normal (st 34 [(2, (.int .i64 1))]) h
  := by kernel_rfl
theorem r18_3 {β : Type} (call : CallF) (md : Bool) (n : Nat) (k : Ex → List AV → Heap → Option β) (x0 x5 : AV) (h : Heap) :
    runK C0 call md 18 n (.region 3 (O18 3) false) k (st 34 [(0, x0), (5, x5)]) h =
    bnd2 (aCall call md (.fn (.func 50) []) [x0] h) fun v1 h2 =>
    bnd (aUn .not v1) fun v3 =>
    k .normal (st 34 [(0, x0), (8, v3)]) h2
  := by kernel_rfl
theorem r18_4 {β : Type} (call : CallF) (md : Bool) (n : Nat) (k : Ex → List AV → Heap → Option β) (x0 x8 : AV) (h : Heap) :
    runK C0 call md 18 n (.region 4 (O18 4) false) k (st 34 [(0, x0), (8, x8)]) h =
    k .normal (st 34 [(2, (.int .i64 4))]) h
  := by kernel_rfl
theorem r18_5 {β : Type} (call : CallF) (md : Bool) (n : Nat) (k : Ex → List AV → Heap → Option β) (x0 x8 : AV) (h : Heap) :
    runK C0 call md 18 n (.region 5 (O18 5) false) k (st 34 [(0, x0), (8, x8)]) h =
    bnd (aNil x0) fun v1 =>
    bnd (aFieldAddr tab 84 v1 1) fun v2 =>
    bnd (aLoad tab 82 v2 h) fun v3 =>
    bnd (aLen tab 82 v3) fun v4 =>
    k .normal (st 34 [(0, x0), (15, v3), (16, v4), (17, (.int .i64 0))]) h
  := by kernel_rfl
theorem r18_6 {β : Type} (call : CallF) (md : Bool) (n : Nat) (k : Ex → List AV → Heap → Option β) (x0 x15 x16 x17 : AV) (h : Heap) :
    runK C0 call md 18 n (.region 6 (O18 6) false) k (st 34 [(0, x0), (15, x15), (16, x16), (17, x17)]) h =
    bnd (aBinC tab .lss 3 x17 x16 false) fun v1 =>
    k .normal (st 34 [(0, x0), (15, x15), (16, x16), (17, x17), (18, v1)]) h
  := by kernel_rfl
theorem r18_7 {β : Type} (call : CallF) (md : Bool) (n : Nat) (k : Ex → List AV → Heap → Option β) (x0 x15 x16 x17 x18 : AV) (h : Heap) :
    runK C0 call md 18 n (.region 7 (O18 7) false) k (st 34 [(0, x0), (15, x15), (16, x16), (17, x17), (18, x18)]) h =
    bnd (aIndexAddr tab 82 x15 x17) fun v1 =>
    bnd (aLoad tab 91 v1 h) fun v2 =>
    bnd2 (aAlloc tab 91 h) fun v3 h4 =>
    bnd (aStore tab 91 v3 v2 h4) fun h5 =>
    k .normal (st 34 [(0, x0), (4, v3), (15, x15), (16, x16), (17, x17)]) h5
  := by kernel_rfl
theorem r18_8 {β : Type} (call : CallF) (md : Bool) (n : Nat) (k : Ex → List AV → Heap → Option β) (x0 x4 x15 x16 x17 : AV) (h : Heap) :
    runK C0 call md 18 n (.region 8 (O18 8) true) k (st 34 [(0, x0), (4, x4), (15, x15), (16, x16), (17, x17)]) h =
    bnd (aNil x0) fun v1 =>
    bnd (aFieldAddr tab 84 v1 0) fun v2 =>
    bnd (aLoad tab 81 v2 h) fun v3 =>
    bnd (aFieldAddr tab 91 x4 0) fun v4 =>
    bnd (aLoad tab 3 v4 h) fun v5 =>
    bnd (aFieldAddr tab 91 x4 1) fun v6 =>
    bnd (aLoad tab 89 v6 h) fun v7 =>
    bnd (aIndexAddr tab 81 v3 v5) fun v8 =>
    bnd (aStore tab 89 v8 v7 h) fun h9 =>
    k .normal (st 34 [(0, x0), (15, x15), (16, x16), (17, x17)]) h9
  := by kernel_rfl
theorem r18_9 {β : Type} (call : CallF) (md : Bool) (n : Nat) (k : Ex → List AV → Heap → Option β) (x0 x15 x16 x17 : AV) (h : Heap) :
    runK C0 call md 18 n (.region 9 (O18 9) false) k (st 34 [(0, x0), (15, x15), (16, x16), (17, x17)]) h =
    bnd (aBinC tab .add 3 x17 (.int .i64 1) true) fun v1 =>
    k .normal (st 34 [(0, x0), (15, x15), (16, x16), (17, v1)]) h
  := by kernel_rfl
theorem r18_10 {β : Type} (call : CallF) (md : Bool) (n : Nat) (k : Ex → List AV → Heap → Option β) (x0 x15 x16 x17 x18 : AV) (h : Heap) :
    runK C0 call md 18 n (.region 10 (O18 10) false) k (st 34 [(0, x0), (15, x15), (16, x16), (17, x17), (18, x18)]) h =
    bnd (aNil x0) fun v1 =>
    bnd (aFieldAddr tab 84 v1 1) fun v2 =>
    bnd (aStore tab 82 v2 .nils h) fun h3 =>
    k .normal (st 34 []) h3
  := by kernel_rfl
theorem r18_11 {β : Type} (call : CallF) (md : Bool) (n : Nat) (k : Ex → List AV → Heap → Option β) (h : Heap) :
    runK C0 call md 18 n (.region 11 (O18 11) false) k (st 34 []) h =
    k .normal (st 34 [(2, (.int .i64 0))]) h
  := by kernel_rfl
end Go.Ax

/- sector's disk: New, Flush. -/
namespace Go.Ax
open Go Go.Proofs

/-! ### New -/
def newN (n : Int) : Nat := (min (max n 0) 1024).toNat
def Dk.new (n : Int) : Dk := ⟨List.replicate (newN n) (List.replicate 64 0), [], -1, false⟩

theorem bld84a (r n : Nat) : aBuild tab 84 [(0, .msl r [] 88 0 n), (2, .int .i64 (-1))] = some (.agg 83 [.msl r [] 88 0 n, .nils, .int .i64 (-1), .bool false]) := by kernel_rfl
theorem bld84b : aBuild tab 84 [(0, .vsl 88 [] .none), (2, .int .i64 (-1))] = some (.agg 83 [.vsl 88 [] .none, .nils, .int .i64 (-1), .bool false]) := by kernel_rfl
theorem bld84 (r n : Nat) : aBuild tab 84 [(0, lastsAV r n), (2, .int .i64 (-1))] = some (.agg 83 [lastsAV r n, .nils, .int .i64 (-1), .bool false]) := by
  unfold lastsAV
  split
  · exact bld84b
  · exact bld84a r n
theorem box84 (v : AV) (fs : List AV) (hv : v = .agg 83 fs) (h : Heap) : aBoxv tab 84 v h = some (.ref h.length [] 83, h ++ [.var 84 v]) := by
  subst hv; simp [aBoxv, fits]

theorem make81 (n : Nat) (hn : n ≤ 1024) (h : Heap) : aMake tab 81 (.int .i64 n) (.int .i64 n) h =
    some (lastsAV h.length n, if n = 0 then h else h ++ [.row 88 (List.replicate n (cellAV (List.replicate 64 0)))]) := by
  have e : aZeros tab 81 (.int .i64 n) (.int .i64 n) = some (88, n, n, cellAV (List.replicate 64 0)) := by
    simp only [aZeros, td81, tb89, tz89, tu89]
    rw [if_pos ⟨by omega, by omega, by omega, by omega⟩]
    simp [cellAV, U8]
  simp only [aMake, e, Option.map_some, lastsAV]
  split <;> rfl

theorem new_ok (n : Int) (h : Heap) (md : Bool) (k : Nat) :
    ∃ p r h', exFn C0 E0 (k + 1) md 13 [.int .i64 n] h = some (dp p, h') ∧ Dsk (From h.length) h' p r (Dk.new n) ∧ Keep (From h.length) h h' := by
  have n0 : ([AV.int .i64 n] ++ List.replicate (9 - [AV.int .i64 n].length) AV.undef) = st 9 [(0, .int .i64 n)] := rfl
  have em : (if (1024 : Int) < (if n < 0 then 0 else n) then 1024 else (if n < 0 then 0 else n)) = (newN n : Nat) := by
    unfold newN; split <;> split <;> omega
  have hN : newN n ≤ 1024 := by unfold newN; omega
  let h1 : Heap := if newN n = 0 then h else h ++ [.row 88 (List.replicate (newN n) (cellAV (List.replicate 64 0)))]
  have k1 : Keep (From h.length) h h1 := by
    simp only [h1]
    split
    · exact Keep.refl _ _
    · exact Keep.app h _ (Up.fresh h)
  have hr : newN n ≠ 0 → h1[h.length]? = some (.row 88 (List.replicate (newN n) (cellAV (List.replicate 64 0)))) := fun hn => by
    simp only [h1]; rw [if_neg hn]; simp
  have mk := make81 (newN n) hN h
  rw [show (if newN n = 0 then h else h ++ [Obj.row 88 (List.replicate (newN n) (cellAV (List.replicate 64 0)))]) = h1 from rfl] at mk
  clear_value h1
  have bx := box84 (.agg 83 [lastsAV h.length (newN n), .nils, .int .i64 (-1), .bool false]) _ rfl h1
  refine ⟨h1.length, h.length, h1 ++ [.var 84 (.agg 83 [lastsAV h.length (newN n), .nils, .int .i64 (-1), .bool false])], exFn_of e13 ?_, ?_, k1.trans (Keep.app h1 _ ((Up.fresh h).keep k1))⟩
  · rw [fnK, n0, s13]
    simp -implicitDefEqProofs only [↓runK_seq, runK_seq, ↓runK_cond, runK_cond, ↓runK_block, runK_block, ↓runK_loop, runK_loop, ↓runK_skip, runK_skip, ↓runK_ret, runK_ret, ↓runK_exit, runK_exit, ↓seqE_n, seqE_n, ↓seqE_e, seqE_e, ↓seqE_r, seqE_r, ↓blkE_n, blkE_n, ↓blkE_e, blkE_e, ↓blkE_r, blkE_r, ↓retK_n, retK_n, ↓retK_r, retK_r, ↓aCall_fn, aCall_fn, ↓bnd_s, bnd_s, ↓bnd2_s, bnd2_s, ↓onB_t, onB_t, ↓onB_f, onB_f, ↓onG_tt, onG_tt, ↓onG_tf, onG_tf, ↓onG_ft, onG_ft, ↓onG_ff, onG_ff, ↓onG_s, onG_s, ↓onT_t, onT_t, ↓aPick_t, aPick_t, ↓aPick_f, aPick_f, decide_true, decide_false, st_tmp, results1, results2, List.lookup_cons, List.lookup_nil, Nat.reduceBEq, Bool.false_eq_true, ↓reduceIte, BEq.rfl, Nat.reduceLT, Option.getD_some, Option.getD_none, ↓r13_0, r13_0, ↓r13_1, r13_1, max2_i64, min2_i64, em, mk, bld84, bx]
  · refine ⟨k1.1, fun _ => Nat.le_refl _, ⟨.nils, by simp [dv, Dk.new], .inl ⟨rfl, rfl⟩⟩, fun hne => ?_, fun b hb => ?_, fun w hw => by simp [Dk.new] at hw, by simpa [Dk.new] using hN⟩
    · have hn : newN n ≠ 0 := by intro e; apply hne; simp [Dk.new, e]
      have := hr hn
      rw [List.getElem?_append_left (List.getElem?_eq_some_iff.1 this).1, this]
      simp [Dk.new]
    · simp only [Dk.new, List.mem_replicate] at hb
      rw [hb.2]; simp

/-! ### Flush -/
def Dk.flush (d : Dk) : Int × Dk := if d.burn.down then (4, d.burn) else (0, ⟨d.now, [], d.burn.fuse, d.burn.down⟩)

theorem fits89 (c : List UInt8) : fits tab 89 (cellAV c) = true := by kernel_rfl
theorem store_cell {h : Heap} {r i : Nat} {l : List (List UInt8)} {c : List UInt8} (hr : h[r]? = some (.row 88 (l.map cellAV))) (hi : i < l.length) :
    aStore tab 89 (.ref r [i] 88) (cellAV c) h = some (h.set r (.row 88 ((l.set i c).map cellAV))) := by
  simp [aStore, fits89, hr, objSet, setP, hi, List.map_set]

theorem flush_loop {S : Obs} {h0 : Heap} {p r : Nat} {y : AV} {lasts : List (List UInt8)} {L : List (Nat × List UInt8)} {f : Int} {w : Bool} (hy : Ap 90 S h0 y (L.map writeAV)) (hL : L.length < 2 ^ 30)
    (hws : ∀ w ∈ L, w.1 < lasts.length) (hs : lasts ≠ [] → S r) (call : CallF) (N : Nat) (md : Bool) :
    ∀ (m i n : Nat) (h : Heap), i + m = L.length → m < n → Up S h → h[p]? = some (dv r lasts.length y f w) → (lasts ≠ [] → h[r]? = some (.row 88 ((land lasts (L.take i)).map cellAV))) →
    ∃ h', (∀ K : Ex → List AV → Heap → Option (AV × Heap), loopK (fun next => runK C0 call md 18 N B18_1 (seqE next K)) n (st 34 [(0, dp p), (15, y), (16, .int .i64 L.length), (17, .int .i64 i)]) h =
      K (.exit 1) (st 34 [(0, dp p), (15, y), (16, .int .i64 L.length), (17, .int .i64 L.length), (18, .bool false)]) h') ∧
      h'[p]? = some (dv r lasts.length y f w) ∧ (lasts ≠ [] → h'[r]? = some (.row 88 ((land lasts L).map cellAV))) ∧ Keep S h h' := by
  intro m
  induction m with
  | zero =>
    intro i n h hi hn up hp hr
    obtain ⟨n, rfl⟩ : ∃ j, n = j + 1 := ⟨n - 1, by omega⟩
    obtain rfl : i = L.length := by omega
    refine ⟨h, fun K => ?_, hp, by simpa using hr, Keep.refl _ _⟩
    rw [loopK_succ]
    generalize loopK (_ : (List AV → Heap → Option (AV × Heap)) → List AV → Heap → Option (AV × Heap)) n = Lp
    have e : decide (((L.length : Nat) : Int) < (L.length : Nat)) = false := decide_eq_false (by omega)
    simp -implicitDefEqProofs only [B18_1, ↓runK_seq, runK_seq, ↓runK_cond, runK_cond, ↓runK_block, runK_block, ↓runK_loop, runK_loop, ↓runK_skip, runK_skip, ↓runK_ret, runK_ret, ↓runK_exit, runK_exit, ↓seqE_n, seqE_n, ↓seqE_e, seqE_e, ↓seqE_r, seqE_r, ↓blkE_n, blkE_n, ↓blkE_e, blkE_e, ↓blkE_r, blkE_r, ↓retK_n, retK_n, ↓retK_r, retK_r, ↓aCall_fn, aCall_fn, ↓bnd_s, bnd_s, ↓bnd2_s, bnd2_s, ↓onB_t, onB_t, ↓onB_f, onB_f, ↓onG_tt, onG_tt, ↓onG_tf, onG_tf, ↓onG_ft, onG_ft, ↓onG_ff, onG_ff, ↓onG_s, onG_s, ↓onT_t, onT_t, ↓aPick_t, aPick_t, ↓aPick_f, aPick_f, decide_true, decide_false, st_tmp, results1, results2, List.lookup_cons, List.lookup_nil, Nat.reduceBEq, Bool.false_eq_true, ↓reduceIte, BEq.rfl, Nat.reduceLT, Option.getD_some, Option.getD_none, ↓r18_0, r18_0, ↓r18_1, r18_1, ↓r18_2, r18_2, ↓r18_3, r18_3, ↓r18_4, r18_4, ↓r18_5, r18_5, ↓r18_6, r18_6, ↓r18_7, r18_7, ↓r18_8, r18_8, ↓r18_9, r18_9, ↓r18_10, r18_10, ↓r18_11, r18_11, bin_lss, e]
  | succ m ih =>
    intro i n h hi hn up hp hr
    obtain ⟨n, rfl⟩ : ∃ j, n = j + 1 := ⟨n - 1, by omega⟩
    have hlt : i < L.length := by omega
    have hw : L[i]? = some L[i] := List.getElem?_eq_getElem hlt
    have hwl := hws _ (List.getElem_mem hlt)
    have tk : L.take (i + 1) = L.take i ++ [L[i]] := by rw [List.take_add_one, hw]; rfl
    have e : decide (((i : Nat) : Int) < (L.length : Nat)) = true := decide_eq_true (by omega)
    have wr : IntKind.i64.wrap ((i : Int) + 1) = ((i + 1 : Nat) : Int) := by rw [wrap_i64] <;> omega
    generalize L[i] = v at *
    have hne : lasts ≠ [] := by intro e; rw [e] at hwl; simp at hwl
    have k1 : Keep (From h.length) h (h ++ [.var 91 (writeAV v)]) := Keep.app h _ (Up.fresh h)
    have hq : (h ++ [.var 91 (writeAV v)])[h.length]? = some (.var 91 (writeAV v)) := by simp
    have hsn := sn91 h v
    have hp1 : (h ++ [.var 91 (writeAV v)])[p]? = some (dv r lasts.length y f w) := by rw [List.getElem?_append_left (List.getElem?_eq_some_iff.1 hp).1]; exact hp
    have hr1 : (h ++ [.var 91 (writeAV v)])[r]? = some (.row 88 ((land lasts (L.take i)).map cellAV)) := by rw [List.getElem?_append_left (List.getElem?_eq_some_iff.1 (hr hne)).1]; exact hr hne
    have kk := k1.up up
    generalize h ++ [Obj.var 91 (writeAV v)] = H at *
    have sc := store_cell (c := v.2) hr1 (by rw [land_length]; exact hwl)
    have hrp : r ≠ p := by intro e; subst e; rw [hp1] at hr1; cases hr1
    have k2 : Keep S H (H.set r (.row 88 (((land lasts (L.take i)).set v.1 v.2).map cellAV))) := Keep.set H _ (hs hne)
    have hp2 : (H.set r (.row 88 (((land lasts (L.take i)).set v.1 v.2).map cellAV)))[p]? = some (dv r lasts.length y f w) := by rw [List.getElem?_set_ne hrp]; exact hp1
    have hr2 : (H.set r (.row 88 (((land lasts (L.take i)).set v.1 v.2).map cellAV)))[r]? = some (.row 88 ((land lasts (L.take (i + 1))).map cellAV)) := by
      rw [tk, land_snoc]; simp [(List.getElem?_eq_some_iff.1 hr1).1]
    obtain ⟨h', h1, h2, h3, h4⟩ := ih (i + 1) n _ (by omega) (by omega) ((up.keep kk).keep k2) hp2 (fun _ => hr2)
    refine ⟨h', fun K => ?_, h2, h3, (kk.trans k2).trans h4⟩
    rw [loopK_succ, ← h1 K]
    generalize loopK (_ : (List AV → Heap → Option (AV × Heap)) → List AV → Heap → Option (AV × Heap)) n = Lp
    simp -implicitDefEqProofs only [B18_1, ↓runK_seq, runK_seq, ↓runK_cond, runK_cond, ↓runK_block, runK_block, ↓runK_loop, runK_loop, ↓runK_skip, runK_skip, ↓runK_ret, runK_ret, ↓runK_exit, runK_exit, ↓seqE_n, seqE_n, ↓seqE_e, seqE_e, ↓seqE_r, seqE_r, ↓blkE_n, blkE_n, ↓blkE_e, blkE_e, ↓blkE_r, blkE_r, ↓retK_n, retK_n, ↓retK_r, retK_r, ↓aCall_fn, aCall_fn, ↓bnd_s, bnd_s, ↓bnd2_s, bnd2_s, ↓onB_t, onB_t, ↓onB_f, onB_f, ↓onG_tt, onG_tt, ↓onG_tf, onG_tf, ↓onG_ft, onG_ft, ↓onG_ff, onG_ff, ↓onG_s, onG_s, ↓onT_t, onT_t, ↓aPick_t, aPick_t, ↓aPick_f, aPick_f, decide_true, decide_false, st_tmp, results1, results2, List.lookup_cons, List.lookup_nil, Nat.reduceBEq, Bool.false_eq_true, ↓reduceIte, BEq.rfl, Nat.reduceLT, Option.getD_some, Option.getD_none, ↓r18_0, r18_0, ↓r18_1, r18_1, ↓r18_2, r18_2, ↓r18_3, r18_3, ↓r18_4, r18_4, ↓r18_5, r18_5, ↓r18_6, r18_6, ↓r18_7, r18_7, ↓r18_8, r18_8, ↓r18_9, r18_9, ↓r18_10, r18_10, ↓r18_11, r18_11, bin_lss, e, idx82 hy hw, load91v, alloc91, hsn, dp_chk, dpf0, dld0 hp1, fa91_0, wld0 hq, fa91_1, wld1 hq, idx81 r _ v.1 hwl, sc, bin_add, wr]

theorem flush_ok {S : Obs} {p r : Nat} {h : Heap} {d : Dk} (D : Dsk S h p r d) (up : Up S h) (hl : d.loose.length < 2 ^ 30) (hf : d.fuse < 2 ^ 63) (md : Bool) (k : Nat) (hk : d.loose.length < k) :
    ∃ h', exFn C0 E0 (k + 1) md 18 [dp p] h = some (.int .i64 d.flush.1, h') ∧ Dsk S h' p r d.flush.2 ∧ Keep S h h' := by
  have n0 : ([dp p] ++ List.replicate (34 - [dp p].length) AV.undef) = st 34 [(0, dp p)] := rfl
  obtain ⟨k, rfl⟩ : ∃ j, k = j + 1 := ⟨k - 1, by omega⟩
  obtain ⟨h1, b1, D1, k1, -, -⟩ := burn_ok D hf md k
  unfold Dk.flush
  cases hdn : d.burn.down
  case true =>
    rw [hdn] at b1
    refine ⟨h1, exFn_of e18 ?_, D1, k1⟩
    rw [fnK, n0, s18]
    simp -implicitDefEqProofs only [↓runK_seq, runK_seq, ↓runK_cond, runK_cond, ↓runK_block, runK_block, ↓runK_loop, runK_loop, ↓runK_skip, runK_skip, ↓runK_ret, runK_ret, ↓runK_exit, runK_exit, ↓seqE_n, seqE_n, ↓seqE_e, seqE_e, ↓seqE_r, seqE_r, ↓blkE_n, blkE_n, ↓blkE_e, blkE_e, ↓blkE_r, blkE_r, ↓retK_n, retK_n, ↓retK_r, retK_r, ↓aCall_fn, aCall_fn, ↓bnd_s, bnd_s, ↓bnd2_s, bnd2_s, ↓onB_t, onB_t, ↓onB_f, onB_f, ↓onG_tt, onG_tt, ↓onG_tf, onG_tf, ↓onG_ft, onG_ft, ↓onG_ff, onG_ff, ↓onG_s, onG_s, ↓onT_t, onT_t, ↓aPick_t, aPick_t, ↓aPick_f, aPick_f, decide_true, decide_false, st_tmp, results1, results2, List.lookup_cons, List.lookup_nil, Nat.reduceBEq, Bool.false_eq_true, ↓reduceIte, BEq.rfl, Nat.reduceLT, Option.getD_some, Option.getD_none, ↓r18_0, r18_0, ↓r18_1, r18_1, ↓r18_2, r18_2, ↓r18_3, r18_3, ↓r18_4, r18_4, ↓r18_5, r18_5, ↓r18_6, r18_6, ↓r18_7, r18_7, ↓r18_8, r18_8, ↓r18_9, r18_9, ↓r18_10, r18_10, ↓r18_11, r18_11, dp_nil, b1, un_not, Bool.not_true, Bool.not_false]
  case false =>
    rw [if_neg Bool.false_ne_true]
    rw [hdn] at b1
    obtain ⟨x, hx, ha⟩ := D1.var
    have hx' : h1[p]? = some (dv r d.lasts.length x d.burn.fuse d.burn.down) := hx
    rw [hdn] at hx'
    have hlen := len82 ha
    rw [List.length_map] at hlen
    have up1 := up.keep k1
    obtain ⟨h2, f1, f2, f3, f4⟩ := flush_loop (f := d.burn.fuse) (w := false) ha hl (fun w hw => (D1.loose w hw).1) D1.hr (exFn C0 E0 (k + 1)) (k + 1) md d.loose.length 0 (k + 1) h1 (by simp [Dk.burn]) (by omega) up1 hx'
      (fun hne => by simpa [land] using D1.row hne)
    rw [show ((0 : Nat) : Int) = 0 from rfl] at f1
    rw [show d.burn.loose = d.loose from rfl] at f1 f3 hlen
    have hlt : p < h2.length := (List.getElem?_eq_some_iff.1 f2).1
    refine ⟨h2.set p (dv r d.lasts.length .nils d.burn.fuse false), exFn_of e18 ?_, ?_, (k1.trans f4).trans (Keep.set h2 _ D.hp)⟩
    · rw [fnK, n0, s18]
      simp -implicitDefEqProofs only [↓runK_seq, runK_seq, ↓runK_cond, runK_cond, ↓runK_block, runK_block, ↓runK_loop, runK_loop, ↓runK_skip, runK_skip, ↓runK_ret, runK_ret, ↓runK_exit, runK_exit, ↓seqE_n, seqE_n, ↓seqE_e, seqE_e, ↓seqE_r, seqE_r, ↓blkE_n, blkE_n, ↓blkE_e, blkE_e, ↓blkE_r, blkE_r, ↓retK_n, retK_n, ↓retK_r, retK_r, ↓aCall_fn, aCall_fn, ↓bnd_s, bnd_s, ↓bnd2_s, bnd2_s, ↓onB_t, onB_t, ↓onB_f, onB_f, ↓onG_tt, onG_tt, ↓onG_tf, onG_tf, ↓onG_ft, onG_ft, ↓onG_ff, onG_ff, ↓onG_s, onG_s, ↓onT_t, onT_t, ↓aPick_t, aPick_t, ↓aPick_f, aPick_f, decide_true, decide_false, st_tmp, results1, results2, List.lookup_cons, List.lookup_nil, Nat.reduceBEq, Bool.false_eq_true, ↓reduceIte, BEq.rfl, Nat.reduceLT, Option.getD_some, Option.getD_none, ↓r18_0, r18_0, ↓r18_1, r18_1, ↓r18_2, r18_2, ↓r18_3, r18_3, ↓r18_4, r18_4, ↓r18_5, r18_5, ↓r18_6, r18_6, ↓r18_7, r18_7, ↓r18_8, r18_8, ↓r18_9, r18_9, ↓r18_10, r18_10, ↓r18_11, r18_11, dp_nil, b1, un_not, Bool.not_true, Bool.not_false, dp_chk, dpf1, dld1 hx', hlen]
      rw [f1]
      simp -implicitDefEqProofs only [↓runK_seq, runK_seq, ↓runK_cond, runK_cond, ↓runK_block, runK_block, ↓runK_loop, runK_loop, ↓runK_skip, runK_skip, ↓runK_ret, runK_ret, ↓runK_exit, runK_exit, ↓seqE_n, seqE_n, ↓seqE_e, seqE_e, ↓seqE_r, seqE_r, ↓blkE_n, blkE_n, ↓blkE_e, blkE_e, ↓blkE_r, blkE_r, ↓retK_n, retK_n, ↓retK_r, retK_r, ↓aCall_fn, aCall_fn, ↓bnd_s, bnd_s, ↓bnd2_s, bnd2_s, ↓onB_t, onB_t, ↓onB_f, onB_f, ↓onG_tt, onG_tt, ↓onG_tf, onG_tf, ↓onG_ft, onG_ft, ↓onG_ff, onG_ff, ↓onG_s, onG_s, ↓onT_t, onT_t, ↓aPick_t, aPick_t, ↓aPick_f, aPick_f, decide_true, decide_false, st_tmp, results1, results2, List.lookup_cons, List.lookup_nil, Nat.reduceBEq, Bool.false_eq_true, ↓reduceIte, BEq.rfl, Nat.reduceLT, Option.getD_some, Option.getD_none, ↓r18_0, r18_0, ↓r18_1, r18_1, ↓r18_2, r18_2, ↓r18_3, r18_3, ↓r18_4, r18_4, ↓r18_5, r18_5, ↓r18_6, r18_6, ↓r18_7, r18_7, ↓r18_8, r18_8, ↓r18_9, r18_9, ↓r18_10, r18_10, ↓r18_11, r18_11, dp_chk, dpf1, dst1 f2 (y := .nils) rfl]
      rfl
    · have hnl : d.now.length = d.lasts.length := land_length _ _
      refine ⟨D.hp, fun hne => D.hr (by intro e; apply hne; simpa [e] using hnl), ⟨.nils, ?_, .inl ⟨rfl, rfl⟩⟩, fun hne => ?_, land_cells _ _ D.cells fun w hw => (D.loose w hw).2, fun w hw => (List.not_mem_nil hw).elim, by rw [hnl]; exact D.few⟩
      · rw [List.getElem?_set_self hlt, hnl]
      · have hne' : d.lasts ≠ [] := by intro e; apply hne; simpa [e] using hnl
        have hr := f3 hne'
        rw [List.getElem?_set_ne]
        · exact hr
        · intro e
          subst e
          rw [f2] at hr
          cases hr
end Go.Ax

/- What the regions of some functions hand on. Printed by a program of mine (gen.py). -/
set_option linter.unusedVariables false
namespace Go.Ax
open Go Go.Proofs
/-! ### interregnum/region.one -/
noncomputable def O48 (i : Nat) : Array Oper := opsOf i (bodyOf Try.f48)
noncomputable def B48_1 : Code := (.seq (.seq (.region 9 (O48 9) false) (.cond (Go.Operand.tmp 67) .skip (.exit 0))) (.seq (.block 1 (.seq (.region 11 (O48 11) false) (.region 12 (O48 12) false))) (.region 10 (O48 10) false)))
theorem s48 : bodyOf Try.f48 = (.seq (.region 0 (O48 0) false) (.seq (.region 1 (O48 1) false) (.seq (.seq (.region 2 (O48 2) true) (.cond (Go.Operand.tmp 46) (.seq (.region 3 (O48 3) false) .ret) .skip)) (.seq (.region 4 (O48 4) false) (.seq (.seq (.region 5 (O48 5) false) (.cond (Go.Operand.tmp 63) (.seq (.region 6 (O48 6) false) .ret) .skip)) (.seq (.region 7 (O48 7) false) (.seq (.seq (.region 8 (O48 8) false) (.block 0 (.loop B48_1))) (.seq (.region 13 (O48 13) false) (.seq (.region 14 (O48 14) false) (.seq (.region 15 (O48 15) true) .ret)))))))))) := by kernel_rfl
theorem e48 : E0 48 = some ⟨104, [8, 9], bodyOf Try.f48⟩ := by kernel_rfl
theorem r48_0 {β : Type} (call : CallF) (md : Bool) (n : Nat) (k : Ex → List AV → Heap → Option β) (x0 x1 x2 x3 : AV) (h : Heap) :
    runK C0 call md 48 n (.region 0 (O48 0) false) k (st 104 [(0, x0), (1, x1), (2, x2), (3, x3)]) h =
    k .normal (st 104 [(0, x0), (1, x1), (2, x2), (3, x3)]) h
  := by kernel_rfl
theorem r48_1 {β : Type} (call : CallF) (md : Bool) (n : Nat) (k : Ex → List AV → Heap → Option β) (x0 x1 x2 x3 : AV) (h : Heap) :
    runK C0 call md 48 n (.region 1 (O48 1) false) k (st 104 [(0, x0), (1, x1), (2, x2), (3, x3)]) h =
    bnd2 (aCall call md (.fn (.func 38) []) [x0, x1] h) fun v1 h2 =>
    bnd (aExtract v1 0) fun v3 =>
    bnd (aExtract v1 1) fun v4 =>
    k .normal (st 104 [(0, x0), (1, x1), (2, x2), (3, x3), (10, v3), (11, v4)]) h2
  := by kernel_rfl
def J48_2_6 {β : Type} (call : CallF) (md : Bool) (k : Ex → List AV → Heap → Option β) (x0 x1 x2 x3 x10 x38 x45 : AV) (h : Heap) : Option β :=
    bnd (aPick x38 (.bool true) x45) fun v1 =>
    k .normal (st 104 [(0, x0), (1, x1), (2, x2), (3, x3), (10, x10), (46, v1)]) h

theorem j48_2_6 {β : Type} (call : CallF) (md : Bool) (k : Ex → List AV → Heap → Option β) (x0 x1 x2 x3 x10 x11 x24 x25 x26 x27 x28 x29 x30 x31 x32 x33 x34 x35 x36 x37 x38 x39 x40 x41 x42 x43 x44 x45 : AV) (h : Heap) :
    opsK C0 call md 48 (O48 2) ((O48 2).toList.drop 22) (st 104 [(0, x0), (1, x1), (2, x2), (3, x3), (10, x10), (11, x11), (24, x24), (25, x25), (26, x26), (27, x27), (28, x28), (29, x29), (30, x30), (31, x31), (32, x32), (33, x33), (34, x34), (35, x35), (36, x36), (37, x37), (38, x38), (39, x39), (40, x40), (41, x41), (42, x42), (43, x43), (44, x44), (45, x45)]) h (fun tm h => k .normal (clr (C0.keep 48 2) tm) h) = J48_2_6 call md k x0 x1 x2 x3 x10 x38 x45 h := by kernel_rfl
def J48_2_5 {β : Type} (call : CallF) (md : Bool) (k : Ex → List AV → Heap → Option β) (x0 x1 x2 x3 x10 x38 : AV) (h : Heap) : Option β :=
    onG false x38 (
      bnd (aSlice tab 22 x10 none (some (.int .i64 12)) none) fun v3 =>
      bnd2 (aCall call md (.fn (.func 71) []) [v3] h) fun v4 h5 =>
      bnd (aSlice tab 22 x10 (some (.int .i64 12)) none none) fun v6 =>
      bnd2 (aCall call md (.fn (.func 72) []) [v6] h5) fun v7 h8 =>
      bnd (aBinC tab .neq 105 v4 v7 false) fun v9 =>
      J48_2_6 call md k x0 x1 x2 x3 x10 x38 v9 h8) (
      J48_2_6 call md k x0 x1 x2 x3 x10 x38 .skip h)

theorem g48_2_5 {β : Type} (call : CallF) (md : Bool) (kk : List AV → Heap → Option β) (x0 x1 x2 x3 x10 x11 x24 x25 x26 x27 x28 x29 x30 x31 x32 x33 x34 x35 x36 x37 x38 : AV) (h : Heap) :
    opsK C0 call md 48 (O48 2) (((O48 2).toList.drop 15).take 7) (st 104 [(0, x0), (1, x1), (2, x2), (3, x3), (10, x10), (11, x11), (24, x24), (25, x25), (26, x26), (27, x27), (28, x28), (29, x29), (30, x30), (31, x31), (32, x32), (33, x33), (34, x34), (35, x35), (36, x36), (37, x37), (38, x38)]) h kk =
    onG false x38 (
      bnd (aSlice tab 22 x10 none (some (.int .i64 12)) none) fun v10 =>
      bnd2 (aCall call md (.fn (.func 71) []) [v10] h) fun v11 h12 =>
      bnd (aSlice tab 22 x10 (some (.int .i64 12)) none none) fun v13 =>
      bnd2 (aCall call md (.fn (.func 72) []) [v13] h12) fun v14 h15 =>
      bnd (aBinC tab .neq 105 v11 v14 false) fun v16 =>
      kk (st 104 [(0, x0), (1, x1), (2, x2), (3, x3), (10, x10), (11, x11), (24, x24), (25, x25), (26, x26), (27, x27), (28, x28), (29, x29), (30, x30), (31, x31), (32, x32), (33, x33), (34, x34), (35, x35), (36, x36), (37, x37), (38, x38), (39, x10), (40, v10), (41, v11), (42, x10), (43, v13), (44, v14), (45, v16)]) h15) (
      kk (st 104 [(0, x0), (1, x1), (2, x2), (3, x3), (10, x10), (11, x11), (24, x24), (25, x25), (26, x26), (27, x27), (28, x28), (29, x29), (30, x30), (31, x31), (32, x32), (33, x33), (34, x34), (35, x35), (36, x36), (37, x37), (38, x38), (39, .skip), (40, .skip), (41, .skip), (42, .skip), (43, .skip), (44, .skip), (45, .skip)]) h)
  := by cases x38 with | bool b => (cases b <;> kernel_rfl) | _ => kernel_rfl
theorem j48_2_5 {β : Type} (call : CallF) (md : Bool) (k : Ex → List AV → Heap → Option β) (x0 x1 x2 x3 x10 x11 x24 x25 x26 x27 x28 x29 x30 x31 x32 x33 x34 x35 x36 x37 x38 : AV) (h : Heap) :
    opsK C0 call md 48 (O48 2) ((O48 2).toList.drop 15) (st 104 [(0, x0), (1, x1), (2, x2), (3, x3), (10, x10), (11, x11), (24, x24), (25, x25), (26, x26), (27, x27), (28, x28), (29, x29), (30, x30), (31, x31), (32, x32), (33, x33), (34, x34), (35, x35), (36, x36), (37, x37), (38, x38)]) h (fun tm h => k .normal (clr (C0.keep 48 2) tm) h) = J48_2_5 call md k x0 x1 x2 x3 x10 x38 h := by
  have e : ((O48 2).toList.drop 15) = ((O48 2).toList.drop 15).take 7 ++ (O48 2).toList.drop 22 := by kernel_rfl
  rw [show opsK C0 call md 48 (O48 2) ((O48 2).toList.drop 15) = opsK C0 call md 48 (O48 2) (((O48 2).toList.drop 15).take 7 ++ (O48 2).toList.drop 22) from congrArg _ e]
  rw [opsK_append, g48_2_5]
  simp only [j48_2_6]
  rfl
def J48_2_4 {β : Type} (call : CallF) (md : Bool) (k : Ex → List AV → Heap → Option β) (x0 x1 x2 x3 x10 x31 x36 : AV) (h : Heap) : Option β :=
    bnd (aPick x31 (.bool true) x36) fun v17 =>
    J48_2_5 call md k x0 x1 x2 x3 x10 v17 h

theorem g48_2_4 {β : Type} (call : CallF) (md : Bool) (kk : List AV → Heap → Option β) (x0 x1 x2 x3 x10 x11 x24 x25 x26 x27 x28 x29 x30 x31 x32 x33 x34 x35 x36 : AV) (h : Heap) :
    opsK C0 call md 48 (O48 2) (((O48 2).toList.drop 13).take 2) (st 104 [(0, x0), (1, x1), (2, x2), (3, x3), (10, x10), (11, x11), (24, x24), (25, x25), (26, x26), (27, x27), (28, x28), (29, x29), (30, x30), (31, x31), (32, x32), (33, x33), (34, x34), (35, x35), (36, x36)]) h kk =
    bnd (aPick x31 (.bool true) x36) fun v18 =>
    kk (st 104 [(0, x0), (1, x1), (2, x2), (3, x3), (10, x10), (11, x11), (24, x24), (25, x25), (26, x26), (27, x27), (28, x28), (29, x29), (30, x30), (31, x31), (32, x32), (33, x33), (34, x34), (35, x35), (36, x36), (37, v18), (38, v18)]) h
  := by kernel_rfl
theorem j48_2_4 {β : Type} (call : CallF) (md : Bool) (k : Ex → List AV → Heap → Option β) (x0 x1 x2 x3 x10 x11 x24 x25 x26 x27 x28 x29 x30 x31 x32 x33 x34 x35 x36 : AV) (h : Heap) :
    opsK C0 call md 48 (O48 2) ((O48 2).toList.drop 13) (st 104 [(0, x0), (1, x1), (2, x2), (3, x3), (10, x10), (11, x11), (24, x24), (25, x25), (26, x26), (27, x27), (28, x28), (29, x29), (30, x30), (31, x31), (32, x32), (33, x33), (34, x34), (35, x35), (36, x36)]) h (fun tm h => k .normal (clr (C0.keep 48 2) tm) h) = J48_2_4 call md k x0 x1 x2 x3 x10 x31 x36 h := by
  have e : ((O48 2).toList.drop 13) = ((O48 2).toList.drop 13).take 2 ++ (O48 2).toList.drop 15 := by kernel_rfl
  rw [show opsK C0 call md 48 (O48 2) ((O48 2).toList.drop 13) = opsK C0 call md 48 (O48 2) (((O48 2).toList.drop 13).take 2 ++ (O48 2).toList.drop 15) from congrArg _ e]
  rw [opsK_append, g48_2_4]
  simp only [j48_2_5]
  rfl
def J48_2_3 {β : Type} (call : CallF) (md : Bool) (k : Ex → List AV → Heap → Option β) (x0 x1 x2 x3 x10 x31 : AV) (h : Heap) : Option β :=
    onG false x31 (
      bnd2 (aCall call md (.fn (.func 72) []) [x10] h) fun v19 h20 =>
      bnd (aConv tab 3 105 x3 h20) fun v21 =>
      bnd (aBinC tab .neq 105 v19 v21 false) fun v22 =>
      J48_2_4 call md k x0 x1 x2 x3 x10 x31 v22 h20) (
      J48_2_4 call md k x0 x1 x2 x3 x10 x31 .skip h)

theorem g48_2_3 {β : Type} (call : CallF) (md : Bool) (kk : List AV → Heap → Option β) (x0 x1 x2 x3 x10 x11 x24 x25 x26 x27 x28 x29 x30 x31 : AV) (h : Heap) :
    opsK C0 call md 48 (O48 2) (((O48 2).toList.drop 8).take 5) (st 104 [(0, x0), (1, x1), (2, x2), (3, x3), (10, x10), (11, x11), (24, x24), (25, x25), (26, x26), (27, x27), (28, x28), (29, x29), (30, x30), (31, x31)]) h kk =
    onG false x31 (
      bnd2 (aCall call md (.fn (.func 72) []) [x10] h) fun v23 h24 =>
      bnd (aConv tab 3 105 x3 h24) fun v25 =>
      bnd (aBinC tab .neq 105 v23 v25 false) fun v26 =>
      kk (st 104 [(0, x0), (1, x1), (2, x2), (3, x3), (10, x10), (11, x11), (24, x24), (25, x25), (26, x26), (27, x27), (28, x28), (29, x29), (30, x30), (31, x31), (32, x10), (33, v23), (34, x3), (35, v25), (36, v26)]) h24) (
      kk (st 104 [(0, x0), (1, x1), (2, x2), (3, x3), (10, x10), (11, x11), (24, x24), (25, x25), (26, x26), (27, x27), (28, x28), (29, x29), (30, x30), (31, x31), (32, .skip), (33, .skip), (34, .skip), (35, .skip), (36, .skip)]) h)
  := by cases x31 with | bool b => (cases b <;> kernel_rfl) | _ => kernel_rfl
theorem j48_2_3 {β : Type} (call : CallF) (md : Bool) (k : Ex → List AV → Heap → Option β) (x0 x1 x2 x3 x10 x11 x24 x25 x26 x27 x28 x29 x30 x31 : AV) (h : Heap) :
    opsK C0 call md 48 (O48 2) ((O48 2).toList.drop 8) (st 104 [(0, x0), (1, x1), (2, x2), (3, x3), (10, x10), (11, x11), (24, x24), (25, x25), (26, x26), (27, x27), (28, x28), (29, x29), (30, x30), (31, x31)]) h (fun tm h => k .normal (clr (C0.keep 48 2) tm) h) = J48_2_3 call md k x0 x1 x2 x3 x10 x31 h := by
  have e : ((O48 2).toList.drop 8) = ((O48 2).toList.drop 8).take 5 ++ (O48 2).toList.drop 13 := by kernel_rfl
  rw [show opsK C0 call md 48 (O48 2) ((O48 2).toList.drop 8) = opsK C0 call md 48 (O48 2) (((O48 2).toList.drop 8).take 5 ++ (O48 2).toList.drop 13) from congrArg _ e]
  rw [opsK_append, g48_2_3]
  simp only [j48_2_4]
  rfl
def J48_2_2 {β : Type} (call : CallF) (md : Bool) (k : Ex → List AV → Heap → Option β) (x0 x1 x2 x3 x10 x26 x29 : AV) (h : Heap) : Option β :=
    bnd (aPick x26 (.bool true) x29) fun v27 =>
    J48_2_3 call md k x0 x1 x2 x3 x10 v27 h

theorem g48_2_2 {β : Type} (call : CallF) (md : Bool) (kk : List AV → Heap → Option β) (x0 x1 x2 x3 x10 x11 x24 x25 x26 x27 x28 x29 : AV) (h : Heap) :
    opsK C0 call md 48 (O48 2) (((O48 2).toList.drop 6).take 2) (st 104 [(0, x0), (1, x1), (2, x2), (3, x3), (10, x10), (11, x11), (24, x24), (25, x25), (26, x26), (27, x27), (28, x28), (29, x29)]) h kk =
    bnd (aPick x26 (.bool true) x29) fun v28 =>
    kk (st 104 [(0, x0), (1, x1), (2, x2), (3, x3), (10, x10), (11, x11), (24, x24), (25, x25), (26, x26), (27, x27), (28, x28), (29, x29), (30, v28), (31, v28)]) h
  := by kernel_rfl
theorem j48_2_2 {β : Type} (call : CallF) (md : Bool) (k : Ex → List AV → Heap → Option β) (x0 x1 x2 x3 x10 x11 x24 x25 x26 x27 x28 x29 : AV) (h : Heap) :
    opsK C0 call md 48 (O48 2) ((O48 2).toList.drop 6) (st 104 [(0, x0), (1, x1), (2, x2), (3, x3), (10, x10), (11, x11), (24, x24), (25, x25), (26, x26), (27, x27), (28, x28), (29, x29)]) h (fun tm h => k .normal (clr (C0.keep 48 2) tm) h) = J48_2_2 call md k x0 x1 x2 x3 x10 x26 x29 h := by
  have e : ((O48 2).toList.drop 6) = ((O48 2).toList.drop 6).take 2 ++ (O48 2).toList.drop 8 := by kernel_rfl
  rw [show opsK C0 call md 48 (O48 2) ((O48 2).toList.drop 6) = opsK C0 call md 48 (O48 2) (((O48 2).toList.drop 6).take 2 ++ (O48 2).toList.drop 8) from congrArg _ e]
  rw [opsK_append, g48_2_2]
  simp only [j48_2_3]
  rfl
def J48_2_1 {β : Type} (call : CallF) (md : Bool) (k : Ex → List AV → Heap → Option β) (x0 x1 x2 x3 x10 x26 : AV) (h : Heap) : Option β :=
    onG false x26 (
      bnd (aBinC tab .geq 3 x1 x2 false) fun v29 =>
      J48_2_2 call md k x0 x1 x2 x3 x10 x26 v29 h) (
      J48_2_2 call md k x0 x1 x2 x3 x10 x26 .skip h)

theorem g48_2_1 {β : Type} (call : CallF) (md : Bool) (kk : List AV → Heap → Option β) (x0 x1 x2 x3 x10 x11 x24 x25 x26 : AV) (h : Heap) :
    opsK C0 call md 48 (O48 2) (((O48 2).toList.drop 3).take 3) (st 104 [(0, x0), (1, x1), (2, x2), (3, x3), (10, x10), (11, x11), (24, x24), (25, x25), (26, x26)]) h kk =
    onG false x26 (
      bnd (aBinC tab .geq 3 x1 x2 false) fun v30 =>
      kk (st 104 [(0, x0), (1, x1), (2, x2), (3, x3), (10, x10), (11, x11), (24, x24), (25, x25), (26, x26), (27, x1), (28, x2), (29, v30)]) h) (
      kk (st 104 [(0, x0), (1, x1), (2, x2), (3, x3), (10, x10), (11, x11), (24, x24), (25, x25), (26, x26), (27, .skip), (28, .skip), (29, .skip)]) h)
  := by cases x26 with | bool b => (cases b <;> kernel_rfl) | _ => kernel_rfl
theorem j48_2_1 {β : Type} (call : CallF) (md : Bool) (k : Ex → List AV → Heap → Option β) (x0 x1 x2 x3 x10 x11 x24 x25 x26 : AV) (h : Heap) :
    opsK C0 call md 48 (O48 2) ((O48 2).toList.drop 3) (st 104 [(0, x0), (1, x1), (2, x2), (3, x3), (10, x10), (11, x11), (24, x24), (25, x25), (26, x26)]) h (fun tm h => k .normal (clr (C0.keep 48 2) tm) h) = J48_2_1 call md k x0 x1 x2 x3 x10 x26 h := by
  have e : ((O48 2).toList.drop 3) = ((O48 2).toList.drop 3).take 3 ++ (O48 2).toList.drop 6 := by kernel_rfl
  rw [show opsK C0 call md 48 (O48 2) ((O48 2).toList.drop 3) = opsK C0 call md 48 (O48 2) (((O48 2).toList.drop 3).take 3 ++ (O48 2).toList.drop 6) from congrArg _ e]
  rw [opsK_append, g48_2_1]
  simp only [j48_2_2]
  rfl
def J48_2_0 {β : Type} (call : CallF) (md : Bool) (k : Ex → List AV → Heap → Option β) (x0 x1 x2 x3 x10 x11 : AV) (h : Heap) : Option β :=
    bnd (aBinC tab .neq 27 x11 (.int .i64 0) true) fun v31 =>
    J48_2_1 call md k x0 x1 x2 x3 x10 v31 h

theorem g48_2_0 {β : Type} (call : CallF) (md : Bool) (kk : List AV → Heap → Option β) (x0 x1 x2 x3 x10 x11 : AV) (h : Heap) :
    opsK C0 call md 48 (O48 2) ((O48 2).toList.take 3) (st 104 [(0, x0), (1, x1), (2, x2), (3, x3), (10, x10), (11, x11)]) h kk =
    bnd (aBinC tab .neq 27 x11 (.int .i64 0) true) fun v32 =>
    kk (st 104 [(0, x0), (1, x1), (2, x2), (3, x3), (10, x10), (11, x11), (24, x11), (25, v32), (26, v32)]) h
  := by kernel_rfl
theorem j48_2_0 {β : Type} (call : CallF) (md : Bool) (k : Ex → List AV → Heap → Option β) (x0 x1 x2 x3 x10 x11 : AV) (h : Heap) :
    opsK C0 call md 48 (O48 2) (O48 2).toList (st 104 [(0, x0), (1, x1), (2, x2), (3, x3), (10, x10), (11, x11)]) h (fun tm h => k .normal (clr (C0.keep 48 2) tm) h) = J48_2_0 call md k x0 x1 x2 x3 x10 x11 h := by
  have e : (O48 2).toList = (O48 2).toList.take 3 ++ (O48 2).toList.drop 3 := by kernel_rfl
  rw [show opsK C0 call md 48 (O48 2) (O48 2).toList = opsK C0 call md 48 (O48 2) ((O48 2).toList.take 3 ++ (O48 2).toList.drop 3) from congrArg _ e]
  rw [opsK_append, g48_2_0]
  simp only [j48_2_1]
  rfl
theorem r48_2 {β : Type} (call : CallF) (md : Bool) (n : Nat) (k : Ex → List AV → Heap → Option β) (x0 x1 x2 x3 x10 x11 : AV) (h : Heap) :
    runK C0 call md 48 n (.region 2 (O48 2) true) k (st 104 [(0, x0), (1, x1), (2, x2), (3, x3), (10, x10), (11, x11)]) h = J48_2_0 call md k x0 x1 x2 x3 x10 x11 h := (runK_draw C0 call md 48 n 2 (O48 2) k (st 104 [(0, x0), (1, x1), (2, x2), (3, x3), (10, x10), (11, x11)]) h).trans ((regK_draw C0 call md 48 (ops := (O48 2)) (by kernel_rfl) (by kernel_rfl) (st 104 [(0, x0), (1, x1), (2, x2), (3, x3), (10, x10), (11, x11)]) h (fun tm h => k .normal (clr (C0.keep 48 2) tm) h)).trans (j48_2_0 call md k x0 x1 x2 x3 x10 x11 h))
theorem r48_3 {β : Type} (call : CallF) (md : Bool) (n : Nat) (k : Ex → List AV → Heap → Option β) (x0 x1 x2 x3 x10 x46 : AV) (h : Heap) :
    runK C0 call md 48 n (.region 3 (O48 3) false) k (st 104 [(0, x0), (1, x1), (2, x2), (3, x3), (10, x10), (46, x46)]) h =
    k .normal (st 104 [(8, .nils), (9, (.bool false))]) h
  := by kernel_rfl
theorem r48_4 {β : Type} (call : CallF) (md : Bool) (n : Nat) (k : Ex → List AV → Heap → Option β) (x0 x1 x2 x3 x10 x46 : AV) (h : Heap) :
    runK C0 call md 48 n (.region 4 (O48 4) false) k (st 104 [(0, x0), (1, x1), (2, x2), (3, x3), (10, x10), (46, x46)]) h =
    bnd (aSlice tab 22 x10 (some (.int .i64 4)) none none) fun v1 =>
    bnd2 (aCall call md (.fn (.func 72) []) [v1] h) fun v2 h3 =>
    bnd (aConv tab 105 3 v2 h3) fun v4 =>
    k .normal (st 104 [(0, x0), (1, x1), (2, x2), (3, x3), (10, x10), (12, v4)]) h3
  := by kernel_rfl
def J48_5_2 {β : Type} (call : CallF) (md : Bool) (k : Ex → List AV → Heap → Option β) (x0 x1 x3 x10 x12 x53 x62 : AV) (h : Heap) : Option β :=
    bnd (aPick x53 (.bool true) x62) fun v1 =>
    k .normal (st 104 [(0, x0), (1, x1), (3, x3), (10, x10), (12, x12), (63, v1)]) h

theorem j48_5_2 {β : Type} (call : CallF) (md : Bool) (k : Ex → List AV → Heap → Option β) (x0 x1 x2 x3 x10 x12 x51 x52 x53 x54 x55 x56 x57 x58 x59 x60 x61 x62 : AV) (h : Heap) :
    opsK C0 call md 48 (O48 5) ((O48 5).toList.drop 12) (st 104 [(0, x0), (1, x1), (2, x2), (3, x3), (10, x10), (12, x12), (51, x51), (52, x52), (53, x53), (54, x54), (55, x55), (56, x56), (57, x57), (58, x58), (59, x59), (60, x60), (61, x61), (62, x62)]) h (fun tm h => k .normal (clr (C0.keep 48 5) tm) h) = J48_5_2 call md k x0 x1 x3 x10 x12 x53 x62 h := by kernel_rfl
def J48_5_1 {β : Type} (call : CallF) (md : Bool) (k : Ex → List AV → Heap → Option β) (x0 x1 x2 x3 x10 x12 x53 : AV) (h : Heap) : Option β :=
    onG false x53 (
      bnd2 (aCall call md (.fn (.func 45) []) [x12] h) fun v3 h4 =>
      bnd2 (aCall call md (.fn (.func 46) []) [x0] h4) fun v5 h6 =>
      bnd (aMin [x2, v5]) fun v7 =>
      bnd (aBinC tab .sub 3 v7 x1 false) fun v8 =>
      bnd (aBinC tab .gtr 3 v3 v8 false) fun v9 =>
      J48_5_2 call md k x0 x1 x3 x10 x12 x53 v9 h6) (
      J48_5_2 call md k x0 x1 x3 x10 x12 x53 .skip h)

theorem g48_5_1 {β : Type} (call : CallF) (md : Bool) (kk : List AV → Heap → Option β) (x0 x1 x2 x3 x10 x12 x51 x52 x53 : AV) (h : Heap) :
    opsK C0 call md 48 (O48 5) (((O48 5).toList.drop 3).take 9) (st 104 [(0, x0), (1, x1), (2, x2), (3, x3), (10, x10), (12, x12), (51, x51), (52, x52), (53, x53)]) h kk =
    onG false x53 (
      bnd2 (aCall call md (.fn (.func 45) []) [x12] h) fun v10 h11 =>
      bnd2 (aCall call md (.fn (.func 46) []) [x0] h11) fun v12 h13 =>
      bnd (aMin [x2, v12]) fun v14 =>
      bnd (aBinC tab .sub 3 v14 x1 false) fun v15 =>
      bnd (aBinC tab .gtr 3 v10 v15 false) fun v16 =>
      kk (st 104 [(0, x0), (1, x1), (2, x2), (3, x3), (10, x10), (12, x12), (51, x51), (52, x52), (53, x53), (54, x12), (55, v10), (56, x2), (57, x0), (58, v12), (59, v14), (60, x1), (61, v15), (62, v16)]) h13) (
      kk (st 104 [(0, x0), (1, x1), (2, x2), (3, x3), (10, x10), (12, x12), (51, x51), (52, x52), (53, x53), (54, .skip), (55, .skip), (56, .skip), (57, .skip), (58, .skip), (59, .skip), (60, .skip), (61, .skip), (62, .skip)]) h)
  := by cases x53 with | bool b => (cases b <;> kernel_rfl) | _ => kernel_rfl
theorem j48_5_1 {β : Type} (call : CallF) (md : Bool) (k : Ex → List AV → Heap → Option β) (x0 x1 x2 x3 x10 x12 x51 x52 x53 : AV) (h : Heap) :
    opsK C0 call md 48 (O48 5) ((O48 5).toList.drop 3) (st 104 [(0, x0), (1, x1), (2, x2), (3, x3), (10, x10), (12, x12), (51, x51), (52, x52), (53, x53)]) h (fun tm h => k .normal (clr (C0.keep 48 5) tm) h) = J48_5_1 call md k x0 x1 x2 x3 x10 x12 x53 h := by
  have e : ((O48 5).toList.drop 3) = ((O48 5).toList.drop 3).take 9 ++ (O48 5).toList.drop 12 := by kernel_rfl
  rw [show opsK C0 call md 48 (O48 5) ((O48 5).toList.drop 3) = opsK C0 call md 48 (O48 5) (((O48 5).toList.drop 3).take 9 ++ (O48 5).toList.drop 12) from congrArg _ e]
  rw [opsK_append, g48_5_1]
  simp only [j48_5_2]
  rfl
def J48_5_0 {β : Type} (call : CallF) (md : Bool) (k : Ex → List AV → Heap → Option β) (x0 x1 x2 x3 x10 x12 : AV) (h : Heap) : Option β :=
    bnd (aBinC tab .gtr 3 x12 (.int .i64 8192) true) fun v17 =>
    J48_5_1 call md k x0 x1 x2 x3 x10 x12 v17 h

theorem g48_5_0 {β : Type} (call : CallF) (md : Bool) (kk : List AV → Heap → Option β) (x0 x1 x2 x3 x10 x12 : AV) (h : Heap) :
    opsK C0 call md 48 (O48 5) ((O48 5).toList.take 3) (st 104 [(0, x0), (1, x1), (2, x2), (3, x3), (10, x10), (12, x12)]) h kk =
    bnd (aBinC tab .gtr 3 x12 (.int .i64 8192) true) fun v18 =>
    kk (st 104 [(0, x0), (1, x1), (2, x2), (3, x3), (10, x10), (12, x12), (51, x12), (52, v18), (53, v18)]) h
  := by kernel_rfl
theorem j48_5_0 {β : Type} (call : CallF) (md : Bool) (k : Ex → List AV → Heap → Option β) (x0 x1 x2 x3 x10 x12 : AV) (h : Heap) :
    opsK C0 call md 48 (O48 5) (O48 5).toList (st 104 [(0, x0), (1, x1), (2, x2), (3, x3), (10, x10), (12, x12)]) h (fun tm h => k .normal (clr (C0.keep 48 5) tm) h) = J48_5_0 call md k x0 x1 x2 x3 x10 x12 h := by
  have e : (O48 5).toList = (O48 5).toList.take 3 ++ (O48 5).toList.drop 3 := by kernel_rfl
  rw [show opsK C0 call md 48 (O48 5) (O48 5).toList = opsK C0 call md 48 (O48 5) ((O48 5).toList.take 3 ++ (O48 5).toList.drop 3) from congrArg _ e]
  rw [opsK_append, g48_5_0]
  simp only [j48_5_1]
  rfl
theorem r48_5 {β : Type} (call : CallF) (md : Bool) (n : Nat) (k : Ex → List AV → Heap → Option β) (x0 x1 x2 x3 x10 x12 : AV) (h : Heap) :
    runK C0 call md 48 n (.region 5 (O48 5) false) k (st 104 [(0, x0), (1, x1), (2, x2), (3, x3), (10, x10), (12, x12)]) h = J48_5_0 call md k x0 x1 x2 x3 x10 x12 h := (runK_region C0 call md 48 n 5 (O48 5) k (st 104 [(0, x0), (1, x1), (2, x2), (3, x3), (10, x10), (12, x12)]) h).trans (j48_5_0 call md k x0 x1 x2 x3 x10 x12 h)
theorem r48_6 {β : Type} (call : CallF) (md : Bool) (n : Nat) (k : Ex → List AV → Heap → Option β) (x0 x1 x3 x10 x12 x63 : AV) (h : Heap) :
    runK C0 call md 48 n (.region 6 (O48 6) false) k (st 104 [(0, x0), (1, x1), (3, x3), (10, x10), (12, x12), (63, x63)]) h =
    k .normal (st 104 [(8, .nils), (9, (.bool false))]) h
  := by kernel_rfl
theorem r48_7 {β : Type} (call : CallF) (md : Bool) (n : Nat) (k : Ex → List AV → Heap → Option β) (x0 x1 x3 x10 x12 x63 : AV) (h : Heap) :
    runK C0 call md 48 n (.region 7 (O48 7) false) k (st 104 [(0, x0), (1, x1), (3, x3), (10, x10), (12, x12), (63, x63)]) h =
    k .normal (st 104 [(0, x0), (1, x1), (3, x3), (10, x10), (12, x12), (13, .nils)]) h
  := by kernel_rfl
theorem r48_8 {β : Type} (call : CallF) (md : Bool) (n : Nat) (k : Ex → List AV → Heap → Option β) (x0 x1 x3 x10 x12 x13 : AV) (h : Heap) :
    runK C0 call md 48 n (.region 8 (O48 8) false) k (st 104 [(0, x0), (1, x1), (3, x3), (10, x10), (12, x12), (13, x13)]) h =
    k .normal (st 104 [(0, x0), (1, x1), (3, x3), (10, x10), (12, x12), (13, x13), (14, (.int .i64 1))]) h
  := by kernel_rfl
theorem r48_9 {β : Type} (call : CallF) (md : Bool) (n : Nat) (k : Ex → List AV → Heap → Option β) (x0 x1 x3 x10 x12 x13 x14 : AV) (h : Heap) :
    runK C0 call md 48 n (.region 9 (O48 9) false) k (st 104 [(0, x0), (1, x1), (3, x3), (10, x10), (12, x12), (13, x13), (14, x14)]) h =
    bnd2 (aCall call md (.fn (.func 45) []) [x12] h) fun v1 h2 =>
    bnd (aBinC tab .lss 3 x14 v1 false) fun v3 =>
    k .normal (st 104 [(0, x0), (1, x1), (3, x3), (10, x10), (12, x12), (13, x13), (14, x14), (67, v3)]) h2
  := by kernel_rfl
theorem r48_10 {β : Type} (call : CallF) (md : Bool) (n : Nat) (k : Ex → List AV → Heap → Option β) (x0 x1 x3 x10 x12 x13 x14 : AV) (h : Heap) :
    runK C0 call md 48 n (.region 10 (O48 10) false) k (st 104 [(0, x0), (1, x1), (3, x3), (10, x10), (12, x12), (13, x13), (14, x14)]) h =
    bnd (aBinC tab .add 3 x14 (.int .i64 1) true) fun v1 =>
    k .normal (st 104 [(0, x0), (1, x1), (3, x3), (10, x10), (12, x12), (13, x13), (14, v1)]) h
  := by kernel_rfl
theorem r48_11 {β : Type} (call : CallF) (md : Bool) (n : Nat) (k : Ex → List AV → Heap → Option β) (x0 x1 x3 x10 x12 x13 x14 x67 : AV) (h : Heap) :
    runK C0 call md 48 n (.region 11 (O48 11) false) k (st 104 [(0, x0), (1, x1), (3, x3), (10, x10), (12, x12), (13, x13), (14, x14), (67, x67)]) h =
    bnd (aBinC tab .add 3 x1 x14 false) fun v1 =>
    bnd2 (aCall call md (.fn (.func 38) []) [x0, v1] h) fun v2 h3 =>
    bnd (aExtract v2 0) fun v4 =>
    bnd (aExtract v2 1) fun v5 =>
    k .normal (st 104 [(0, x0), (1, x1), (3, x3), (10, x10), (12, x12), (13, x13), (14, x14), (15, v4)]) h3
  := by kernel_rfl
theorem r48_12 {β : Type} (call : CallF) (md : Bool) (n : Nat) (k : Ex → List AV → Heap → Option β) (x0 x1 x3 x10 x12 x13 x14 x15 : AV) (h : Heap) :
    runK C0 call md 48 n (.region 12 (O48 12) false) k (st 104 [(0, x0), (1, x1), (3, x3), (10, x10), (12, x12), (13, x13), (14, x14), (15, x15)]) h =
    bnd2 (aApp tab 22 22 md x13 x15 h) fun v1 h2 =>
    k .normal (st 104 [(0, x0), (1, x1), (3, x3), (10, x10), (12, x12), (13, v1), (14, x14)]) h2
  := by kernel_rfl
theorem r48_13 {β : Type} (call : CallF) (md : Bool) (n : Nat) (k : Ex → List AV → Heap → Option β) (x0 x1 x3 x10 x12 x13 x14 x67 : AV) (h : Heap) :
    runK C0 call md 48 n (.region 13 (O48 13) false) k (st 104 [(0, x0), (1, x1), (3, x3), (10, x10), (12, x12), (13, x13), (14, x14), (67, x67)]) h =
    bnd (aSlice tab 22 x13 (some x12) none none) fun v1 =>
    k .normal (st 104 [(3, x3), (10, x10), (12, x12), (13, x13), (17, v1)]) h
  := by kernel_rfl
theorem r48_14 {β : Type} (call : CallF) (md : Bool) (n : Nat) (k : Ex → List AV → Heap → Option β) (x3 x10 x12 x13 x17 : AV) (h : Heap) :
    runK C0 call md 48 n (.region 14 (O48 14) false) k (st 104 [(3, x3), (10, x10), (12, x12), (13, x13), (17, x17)]) h =
    bnd (aSlice tab 22 x13 none (some x12) (some x12)) fun v1 =>
    k .normal (st 104 [(3, x3), (10, x10), (13, v1), (17, x17)]) h
  := by kernel_rfl
def J48_15_4 {β : Type} (call : CallF) (md : Bool) (k : Ex → List AV → Heap → Option β) (x88 x100 x102 : AV) (h : Heap) : Option β :=
    bnd (aPick x100 x102 (.bool false)) fun v1 =>
    k .normal (st 104 [(8, x88), (9, v1)]) h

theorem j48_15_4 {β : Type} (call : CallF) (md : Bool) (k : Ex → List AV → Heap → Option β) (x3 x10 x13 x17 x88 x89 x90 x91 x92 x93 x94 x95 x96 x97 x98 x99 x100 x101 x102 : AV) (h : Heap) :
    opsK C0 call md 48 (O48 15) ((O48 15).toList.drop 15) (st 104 [(3, x3), (10, x10), (13, x13), (17, x17), (88, x88), (89, x89), (90, x90), (91, x91), (92, x92), (93, x93), (94, x94), (95, x95), (96, x96), (97, x97), (98, x98), (99, x99), (100, x100), (101, x101), (102, x102)]) h (fun tm h => k .normal (clr (C0.keep 48 15) tm) h) = J48_15_4 call md k x88 x100 x102 h := by kernel_rfl
def J48_15_3 {β : Type} (call : CallF) (md : Bool) (k : Ex → List AV → Heap → Option β) (x17 x88 x100 : AV) (h : Heap) : Option β :=
    onG true x100 (
      bnd2 (aCall call md (.fn (.func 51) []) [x17] h) fun v3 h4 =>
      J48_15_4 call md k x88 x100 v3 h4) (
      J48_15_4 call md k x88 x100 .skip h)

theorem g48_15_3 {β : Type} (call : CallF) (md : Bool) (kk : List AV → Heap → Option β) (x3 x10 x13 x17 x88 x89 x90 x91 x92 x93 x94 x95 x96 x97 x98 x99 x100 : AV) (h : Heap) :
    opsK C0 call md 48 (O48 15) (((O48 15).toList.drop 13).take 2) (st 104 [(3, x3), (10, x10), (13, x13), (17, x17), (88, x88), (89, x89), (90, x90), (91, x91), (92, x92), (93, x93), (94, x94), (95, x95), (96, x96), (97, x97), (98, x98), (99, x99), (100, x100)]) h kk =
    onG true x100 (
      bnd2 (aCall call md (.fn (.func 51) []) [x17] h) fun v5 h6 =>
      kk (st 104 [(3, x3), (10, x10), (13, x13), (17, x17), (88, x88), (89, x89), (90, x90), (91, x91), (92, x92), (93, x93), (94, x94), (95, x95), (96, x96), (97, x97), (98, x98), (99, x99), (100, x100), (101, x17), (102, v5)]) h6) (
      kk (st 104 [(3, x3), (10, x10), (13, x13), (17, x17), (88, x88), (89, x89), (90, x90), (91, x91), (92, x92), (93, x93), (94, x94), (95, x95), (96, x96), (97, x97), (98, x98), (99, x99), (100, x100), (101, .skip), (102, .skip)]) h)
  := by cases x100 with | bool b => (cases b <;> kernel_rfl) | _ => kernel_rfl
theorem j48_15_3 {β : Type} (call : CallF) (md : Bool) (k : Ex → List AV → Heap → Option β) (x3 x10 x13 x17 x88 x89 x90 x91 x92 x93 x94 x95 x96 x97 x98 x99 x100 : AV) (h : Heap) :
    opsK C0 call md 48 (O48 15) ((O48 15).toList.drop 13) (st 104 [(3, x3), (10, x10), (13, x13), (17, x17), (88, x88), (89, x89), (90, x90), (91, x91), (92, x92), (93, x93), (94, x94), (95, x95), (96, x96), (97, x97), (98, x98), (99, x99), (100, x100)]) h (fun tm h => k .normal (clr (C0.keep 48 15) tm) h) = J48_15_3 call md k x17 x88 x100 h := by
  have e : ((O48 15).toList.drop 13) = ((O48 15).toList.drop 13).take 2 ++ (O48 15).toList.drop 15 := by kernel_rfl
  rw [show opsK C0 call md 48 (O48 15) ((O48 15).toList.drop 13) = opsK C0 call md 48 (O48 15) (((O48 15).toList.drop 13).take 2 ++ (O48 15).toList.drop 15) from congrArg _ e]
  rw [opsK_append, g48_15_3]
  simp only [j48_15_4]
  rfl
def J48_15_2 {β : Type} (call : CallF) (md : Bool) (k : Ex → List AV → Heap → Option β) (x17 x88 x95 x98 : AV) (h : Heap) : Option β :=
    bnd (aPick x95 x98 (.bool false)) fun v7 =>
    J48_15_3 call md k x17 x88 v7 h

theorem g48_15_2 {β : Type} (call : CallF) (md : Bool) (kk : List AV → Heap → Option β) (x3 x10 x13 x17 x88 x89 x90 x91 x92 x93 x94 x95 x96 x97 x98 : AV) (h : Heap) :
    opsK C0 call md 48 (O48 15) (((O48 15).toList.drop 11).take 2) (st 104 [(3, x3), (10, x10), (13, x13), (17, x17), (88, x88), (89, x89), (90, x90), (91, x91), (92, x92), (93, x93), (94, x94), (95, x95), (96, x96), (97, x97), (98, x98)]) h kk =
    bnd (aPick x95 x98 (.bool false)) fun v8 =>
    kk (st 104 [(3, x3), (10, x10), (13, x13), (17, x17), (88, x88), (89, x89), (90, x90), (91, x91), (92, x92), (93, x93), (94, x94), (95, x95), (96, x96), (97, x97), (98, x98), (99, v8), (100, v8)]) h
  := by kernel_rfl
theorem j48_15_2 {β : Type} (call : CallF) (md : Bool) (k : Ex → List AV → Heap → Option β) (x3 x10 x13 x17 x88 x89 x90 x91 x92 x93 x94 x95 x96 x97 x98 : AV) (h : Heap) :
    opsK C0 call md 48 (O48 15) ((O48 15).toList.drop 11) (st 104 [(3, x3), (10, x10), (13, x13), (17, x17), (88, x88), (89, x89), (90, x90), (91, x91), (92, x92), (93, x93), (94, x94), (95, x95), (96, x96), (97, x97), (98, x98)]) h (fun tm h => k .normal (clr (C0.keep 48 15) tm) h) = J48_15_2 call md k x17 x88 x95 x98 h := by
  have e : ((O48 15).toList.drop 11) = ((O48 15).toList.drop 11).take 2 ++ (O48 15).toList.drop 13 := by kernel_rfl
  rw [show opsK C0 call md 48 (O48 15) ((O48 15).toList.drop 11) = opsK C0 call md 48 (O48 15) (((O48 15).toList.drop 11).take 2 ++ (O48 15).toList.drop 13) from congrArg _ e]
  rw [opsK_append, g48_15_2]
  simp only [j48_15_3]
  rfl
def J48_15_1 {β : Type} (call : CallF) (md : Bool) (k : Ex → List AV → Heap → Option β) (x10 x17 x88 x95 : AV) (h : Heap) : Option β :=
    onG true x95 (
      bnd (aSlice tab 22 x10 (some (.int .i64 16)) none none) fun v9 =>
      bnd2 (aCall call md (.fn (.func 51) []) [v9] h) fun v10 h11 =>
      J48_15_2 call md k x17 x88 x95 v10 h11) (
      J48_15_2 call md k x17 x88 x95 .skip h)

theorem g48_15_1 {β : Type} (call : CallF) (md : Bool) (kk : List AV → Heap → Option β) (x3 x10 x13 x17 x88 x89 x90 x91 x92 x93 x94 x95 : AV) (h : Heap) :
    opsK C0 call md 48 (O48 15) (((O48 15).toList.drop 8).take 3) (st 104 [(3, x3), (10, x10), (13, x13), (17, x17), (88, x88), (89, x89), (90, x90), (91, x91), (92, x92), (93, x93), (94, x94), (95, x95)]) h kk =
    onG true x95 (
      bnd (aSlice tab 22 x10 (some (.int .i64 16)) none none) fun v12 =>
      bnd2 (aCall call md (.fn (.func 51) []) [v12] h) fun v13 h14 =>
      kk (st 104 [(3, x3), (10, x10), (13, x13), (17, x17), (88, x88), (89, x89), (90, x90), (91, x91), (92, x92), (93, x93), (94, x94), (95, x95), (96, x10), (97, v12), (98, v13)]) h14) (
      kk (st 104 [(3, x3), (10, x10), (13, x13), (17, x17), (88, x88), (89, x89), (90, x90), (91, x91), (92, x92), (93, x93), (94, x94), (95, x95), (96, .skip), (97, .skip), (98, .skip)]) h)
  := by cases x95 with | bool b => (cases b <;> kernel_rfl) | _ => kernel_rfl
theorem j48_15_1 {β : Type} (call : CallF) (md : Bool) (k : Ex → List AV → Heap → Option β) (x3 x10 x13 x17 x88 x89 x90 x91 x92 x93 x94 x95 : AV) (h : Heap) :
    opsK C0 call md 48 (O48 15) ((O48 15).toList.drop 8) (st 104 [(3, x3), (10, x10), (13, x13), (17, x17), (88, x88), (89, x89), (90, x90), (91, x91), (92, x92), (93, x93), (94, x94), (95, x95)]) h (fun tm h => k .normal (clr (C0.keep 48 15) tm) h) = J48_15_1 call md k x10 x17 x88 x95 h := by
  have e : ((O48 15).toList.drop 8) = ((O48 15).toList.drop 8).take 3 ++ (O48 15).toList.drop 11 := by kernel_rfl
  rw [show opsK C0 call md 48 (O48 15) ((O48 15).toList.drop 8) = opsK C0 call md 48 (O48 15) (((O48 15).toList.drop 8).take 3 ++ (O48 15).toList.drop 11) from congrArg _ e]
  rw [opsK_append, g48_15_1]
  simp only [j48_15_2]
  rfl
def J48_15_0 {β : Type} (call : CallF) (md : Bool) (k : Ex → List AV → Heap → Option β) (x3 x10 x13 x17 : AV) (h : Heap) : Option β :=
    bnd2 (aCall call md (.fn (.func 47) []) [x3, x13] h) fun v15 h16 =>
    bnd (aSlice tab 22 x10 none (some (.int .i64 16)) none) fun v17 =>
    bnd2 (aCall call md (.fn (.func 73) []) [v15, v17] h16) fun v18 h19 =>
    J48_15_1 call md k x10 x17 x13 v18 h19

theorem g48_15_0 {β : Type} (call : CallF) (md : Bool) (kk : List AV → Heap → Option β) (x3 x10 x13 x17 : AV) (h : Heap) :
    opsK C0 call md 48 (O48 15) ((O48 15).toList.take 8) (st 104 [(3, x3), (10, x10), (13, x13), (17, x17)]) h kk =
    bnd2 (aCall call md (.fn (.func 47) []) [x3, x13] h) fun v20 h21 =>
    bnd (aSlice tab 22 x10 none (some (.int .i64 16)) none) fun v22 =>
    bnd2 (aCall call md (.fn (.func 73) []) [v20, v22] h21) fun v23 h24 =>
    kk (st 104 [(3, x3), (10, x10), (13, x13), (17, x17), (88, x13), (89, x3), (90, x13), (91, v20), (92, x10), (93, v22), (94, v23), (95, v23)]) h24
  := by kernel_rfl
theorem j48_15_0 {β : Type} (call : CallF) (md : Bool) (k : Ex → List AV → Heap → Option β) (x3 x10 x13 x17 : AV) (h : Heap) :
    opsK C0 call md 48 (O48 15) (O48 15).toList (st 104 [(3, x3), (10, x10), (13, x13), (17, x17)]) h (fun tm h => k .normal (clr (C0.keep 48 15) tm) h) = J48_15_0 call md k x3 x10 x13 x17 h := by
  have e : (O48 15).toList = (O48 15).toList.take 8 ++ (O48 15).toList.drop 8 := by kernel_rfl
  rw [show opsK C0 call md 48 (O48 15) (O48 15).toList = opsK C0 call md 48 (O48 15) ((O48 15).toList.take 8 ++ (O48 15).toList.drop 8) from congrArg _ e]
  rw [opsK_append, g48_15_0]
  simp only [j48_15_1]
  rfl
theorem r48_15 {β : Type} (call : CallF) (md : Bool) (n : Nat) (k : Ex → List AV → Heap → Option β) (x3 x10 x13 x17 : AV) (h : Heap) :
    runK C0 call md 48 n (.region 15 (O48 15) true) k (st 104 [(3, x3), (10, x10), (13, x13), (17, x17)]) h = J48_15_0 call md k x3 x10 x13 x17 h := (runK_draw C0 call md 48 n 15 (O48 15) k (st 104 [(3, x3), (10, x10), (13, x13), (17, x17)]) h).trans ((regK_draw C0 call md 48 (ops := (O48 15)) (by kernel_rfl) (by kernel_rfl) (st 104 [(3, x3), (10, x10), (13, x13), (17, x17)]) h (fun tm h => k .normal (clr (C0.keep 48 15) tm) h)).trans (j48_15_0 call md k x3 x10 x13 x17 h))
end Go.Ax

/- region.one: the entry that begins at a sector. -/
namespace Go.Ax
open Go Go.Proofs

theorem Dsk.low {S : Obs} {h : Heap} {p r : Nat} {d : Dk} (D : Dsk S h p r d) : Dsk (fun i => i < h.length) h p r d := by
  obtain ⟨x, hx, ha⟩ := D.var
  refine ⟨(List.getElem?_eq_some_iff.1 hx).1, fun e => (List.getElem?_eq_some_iff.1 (D.row e)).1, ⟨x, hx, ?_⟩, D.row, D.cells, D.loose, D.few⟩
  rcases ha with a | ⟨kk, hx, a | ⟨r, g, hk, hr, hg⟩⟩
  · exact .inl a
  · exact .inr ⟨kk, hx, .inl a⟩
  · exact .inr ⟨kk, hx, .inr ⟨r, g, hk, (List.getElem?_eq_some_iff.1 hg).1, hg⟩⟩

theorem Dsk.now_length {S : Obs} {h : Heap} {p r : Nat} {d : Dk} (_ : Dsk S h p r d) : d.now.length = d.lasts.length := land_length _ _
theorem Dsk.now_cells {S : Obs} {h : Heap} {p r : Nat} {d : Dk} (D : Dsk S h p r d) : ∀ b ∈ d.now, b.length = 64 := land_cells _ _ D.cells fun w hw => (D.loose w hw).2

/-- The sectors behind a head. -/
def bodyAt (now : List (List UInt8)) (a n : Nat) : List UInt8 := ((now.drop (a + 1)).take n).flatten

theorem bodyAt_succ (now : List (List UInt8)) (a n : Nat) (b : List UInt8) (h : now[a + 1 + n]? = some b) : bodyAt now a (n + 1) = bodyAt now a n ++ b := by
  unfold bodyAt
  rw [List.take_add_one, List.getElem?_drop, h, List.flatten_append]
  simp
theorem bodyAt_length (now : List (List UInt8)) (hc : ∀ b ∈ now, b.length = 64) (a : Nat) : ∀ n, a + 1 + n ≤ now.length → (bodyAt now a n).length = 64 * n := by
  intro n
  induction n with
  | zero => intro _; simp [bodyAt]
  | succ n ih =>
    intro hn
    have hlt : a + 1 + n < now.length := by omega
    rw [bodyAt_succ now a n now[a + 1 + n] (List.getElem?_eq_getElem hlt), List.length_append, ih (by omega), hc _ (List.getElem_mem hlt)]
    omega

theorem one_loop {S U : Obs} {p r : Nat} {d : Dk} (hl : d.loose.length < 2 ^ 30) (dis : ∀ i, S i → ¬ U i) (a nn : Nat) (size : Int) (hs : size < 2 ^ 62) (hnn : sizeOf size = nn) (ha : a + nn ≤ d.lasts.length) (x3 x10 : AV) (N : Nat) (hN : d.loose.length + 5 < N) :
    ∀ (m i n : Nat) (acc : AV) (h : Heap), i + 1 + m = nn → m < n → Up U h → Dsk S h p r d → ApB U h acc (bodyAt d.now a i) →
    ∃ acc' h', (∀ K : Ex → List AV → Heap → Option (AV × Heap), loopK (fun next => runK C0 (exFn C0 E0 (N + 1)) false 48 (N + 1) B48_1 (seqE next K)) n (st 104 [(0, dp p), (1, .int .i64 a), (3, x3), (10, x10), (12, .int .i64 size), (13, acc), (14, .int .i64 ((i + 1 : Nat) : Int))]) h =
      K (.exit 0) (st 104 [(0, dp p), (1, .int .i64 a), (3, x3), (10, x10), (12, .int .i64 size), (13, acc'), (14, .int .i64 nn), (67, .bool false)]) h') ∧
      ApB U h' acc' (bodyAt d.now a (nn - 1)) ∧ Keep U h h' := by
  intro m
  induction m with
  | zero =>
    intro i n acc h hi hn up D hacc
    obtain ⟨n, rfl⟩ : ∃ j, n = j + 1 := ⟨n - 1, by omega⟩
    obtain rfl : nn = i + 1 := by omega
    refine ⟨acc, h, fun K => ?_, by simpa using hacc, Keep.refl _ _⟩
    rw [loopK_succ]
    generalize loopK (_ : (List AV → Heap → Option (AV × Heap)) → List AV → Heap → Option (AV × Heap)) n = Lp
    have e : decide (((i + 1 : Nat) : Int) < sizeOf size) = false := decide_eq_false (by omega)
    simp -implicitDefEqProofs only [B48_1, ↓runK_seq, runK_seq, ↓runK_cond, runK_cond, ↓runK_block, runK_block, ↓runK_loop, runK_loop, ↓runK_skip, runK_skip, ↓runK_ret, runK_ret, ↓runK_exit, runK_exit, ↓seqE_n, seqE_n, ↓seqE_e, seqE_e, ↓seqE_r, seqE_r, ↓blkE_n, blkE_n, ↓blkE_e, blkE_e, ↓blkE_r, blkE_r, ↓retK_n, retK_n, ↓retK_r, retK_r, ↓aCall_fn, aCall_fn, ↓bnd_s, bnd_s, ↓bnd2_s, bnd2_s, ↓onB_t, onB_t, ↓onB_f, onB_f, ↓onG_tt, onG_tt, ↓onG_tf, onG_tf, ↓onG_ft, onG_ft, ↓onG_ff, onG_ff, ↓onG_s, onG_s, ↓onT_t, onT_t, ↓aPick_t, aPick_t, ↓aPick_f, aPick_f, decide_true, decide_false, st_tmp, results1, results2, List.lookup_cons, List.lookup_nil, Nat.reduceBEq, Bool.false_eq_true, ↓reduceIte, BEq.rfl, Nat.reduceLT, Option.getD_some, Option.getD_none, ↓r48_0, r48_0, ↓r48_1, r48_1, ↓r48_2, r48_2, J48_2_0, J48_2_1, J48_2_2, J48_2_3, J48_2_4, J48_2_5, J48_2_6, ↓r48_3, r48_3, ↓r48_4, r48_4, ↓r48_5, r48_5, J48_5_0, J48_5_1, J48_5_2, ↓r48_6, r48_6, ↓r48_7, r48_7, ↓r48_8, r48_8, ↓r48_9, r48_9, ↓r48_10, r48_10, ↓r48_11, r48_11, ↓r48_12, r48_12, ↓r48_13, r48_13, ↓r48_14, r48_14, ↓r48_15, r48_15, J48_15_0, J48_15_1, J48_15_2, J48_15_3, J48_15_4, size_ok size hs, bin_lss, e]
  | succ m ih =>
    intro i n acc h hi hn up D hacc
    obtain ⟨n, rfl⟩ : ∃ j, n = j + 1 := ⟨n - 1, by omega⟩
    have hf := D.few
    have e : decide (((i + 1 : Nat) : Int) < sizeOf size) = true := decide_eq_true (by omega)
    have wa : IntKind.i64.wrap ((a : Int) + ((i + 1 : Nat) : Int)) = ((a + 1 + i : Nat) : Int) := by rw [wrap_i64] <;> omega
    have wr : IntKind.i64.wrap (((i + 1 : Nat) : Int) + 1) = ((i + 1 + 1 : Nat) : Int) := by rw [wrap_i64] <;> omega
    obtain ⟨y, h1, r1, r2, r3⟩ := read_ok D hl ((a + 1 + i : Nat) : Int) N hN
    have hlt : a + 1 + i < d.now.length := by rw [D.now_length]; omega
    have hrd : d.read ((a + 1 + i : Nat) : Int) = (d.now[a + 1 + i], 0) := by
      unfold Dk.read
      rw [if_pos ⟨by omega, by omega⟩, Int.toNat_natCast, List.getElem?_eq_getElem hlt]
      rfl
    rw [hrd] at r1 r2
    have hlen := D.now_cells _ (List.getElem_mem hlt)
    have hbs := bodyAt_succ d.now a i _ (List.getElem?_eq_getElem hlt)
    have hbl := bodyAt_length d.now D.now_cells a i (by omega)
    generalize d.now[a + 1 + i] = c at *
    have up1 := up.keep r3
    obtain ⟨acc', h2, ap, a2, k2, -⟩ := ApB.append (l := bodyAt d.now a i) (hacc.fresh r3) up1 (new := c) (by intro e; subst e; simp at hlen) (by omega)
    have by2 : By U h1 y c := .inl r2.bs
    have k12 := (r3.up up).trans k2
    rw [← hbs] at a2
    obtain ⟨acc'', h3, g1, g2, g3⟩ := ih (i + 1) n acc' h2 (by omega) (by omega) (up1.keep k2) (D.keep k12 fun j _ hj => dis j hj) a2
    refine ⟨acc'', h3, fun K => ?_, g2, k12.trans g3⟩
    rw [loopK_succ, ← g1 K]
    generalize loopK (_ : (List AV → Heap → Option (AV × Heap)) → List AV → Heap → Option (AV × Heap)) n = Lp
    simp -implicitDefEqProofs only [B48_1, ↓runK_seq, runK_seq, ↓runK_cond, runK_cond, ↓runK_block, runK_block, ↓runK_loop, runK_loop, ↓runK_skip, runK_skip, ↓runK_ret, runK_ret, ↓runK_exit, runK_exit, ↓seqE_n, seqE_n, ↓seqE_e, seqE_e, ↓seqE_r, seqE_r, ↓blkE_n, blkE_n, ↓blkE_e, blkE_e, ↓blkE_r, blkE_r, ↓retK_n, retK_n, ↓retK_r, retK_r, ↓aCall_fn, aCall_fn, ↓bnd_s, bnd_s, ↓bnd2_s, bnd2_s, ↓onB_t, onB_t, ↓onB_f, onB_f, ↓onG_tt, onG_tt, ↓onG_tf, onG_tf, ↓onG_ft, onG_ft, ↓onG_ff, onG_ff, ↓onG_s, onG_s, ↓onT_t, onT_t, ↓aPick_t, aPick_t, ↓aPick_f, aPick_f, decide_true, decide_false, st_tmp, results1, results2, List.lookup_cons, List.lookup_nil, Nat.reduceBEq, Bool.false_eq_true, ↓reduceIte, BEq.rfl, Nat.reduceLT, Option.getD_some, Option.getD_none, ↓r48_0, r48_0, ↓r48_1, r48_1, ↓r48_2, r48_2, J48_2_0, J48_2_1, J48_2_2, J48_2_3, J48_2_4, J48_2_5, J48_2_6, ↓r48_3, r48_3, ↓r48_4, r48_4, ↓r48_5, r48_5, J48_5_0, J48_5_1, J48_5_2, ↓r48_6, r48_6, ↓r48_7, r48_7, ↓r48_8, r48_8, ↓r48_9, r48_9, ↓r48_10, r48_10, ↓r48_11, r48_11, ↓r48_12, r48_12, ↓r48_13, r48_13, ↓r48_14, r48_14, ↓r48_15, r48_15, J48_15_0, J48_15_1, J48_15_2, J48_15_3, J48_15_4, size_ok size hs, bin_lss, e, bin_add, wa, wr, r1, ext0, ext1, app22s by2.src, ap]

/-- The entry that begins at a sector. -/
def oneOf (now : List (List UInt8)) (at' e gen : Int) : Option (List UInt8) :=
  if 0 ≤ at' ∧ at' < now.length then
    let c := (now[at'.toNat]?).getD []
    if e ≤ at' ∨ get4 c ≠ BitVec.ofInt 32 gen ∨ crc (c.take 12) ≠ get4 (c.drop 12) then none
    else
      let size := (get4 (c.drop 4)).toNat
      if 8192 < size ∨ min e now.length - at' < sizeOf size then none
      else
        let all := bodyAt now at'.toNat ((sizeOf size).toNat - 1)
        let b := all.take size
        if head16 (BitVec.ofInt 32 gen) b = c.take 16 ∧ (c.drop 16).all (· == 0) = true ∧ (all.drop size).all (· == 0) = true then some b else none
  else none

theorem Bs.from {x : AV} {l : List UInt8} (hx : Bs x l) (n : Nat) (hn : n ≤ l.length) : ∃ y, aSlice tab 22 x (some (.int .i64 n)) none none = some y ∧ Bs y (l.drop n) := by
  rcases hx with ⟨rfl, rfl⟩ | ⟨k, rfl⟩
  · obtain rfl : n = 0 := by simpa using hn
    exact ⟨.nils, by simp [aSlice, aBounds, aBound], .inl ⟨rfl, by simp⟩⟩
  · refine ⟨.vsl 5 ((l.drop n).map U8) k, ?_, .inr ⟨_, rfl⟩⟩
    have e : (l.map U8).take l.length = l.map U8 := List.take_of_length_le (by simp)
    simp [aSlice, aBounds, aBound, hn, e, cutTok]

theorem Bs.cut {x : AV} {l : List UInt8} (hx : Bs x l) (n : Nat) (hn : n ≤ l.length) (S : Obs) (h : Heap) : ∃ y, aSlice tab 22 x none (some (.int .i64 n)) (some (.int .i64 n)) = some y ∧ ApB S h y (l.take n) := by
  rcases hx with ⟨rfl, rfl⟩ | ⟨k, rfl⟩
  · obtain rfl : n = 0 := by simpa using hn
    exact ⟨.nils, by simp [aSlice, aBounds, aBound], .inl ⟨rfl, by simp⟩⟩
  · refine ⟨_, by simp [aSlice, aBounds, aBound, hn, cutTok]; rfl, .inr ⟨_, by rw [List.map_take], .inl rfl⟩⟩

theorem oneOf_out {now : List (List UInt8)} {at' e gen : Int} (h : ¬ (0 ≤ at' ∧ at' < now.length)) : oneOf now at' e gen = none := if_neg h
theorem oneOf_head {now : List (List UInt8)} {a : Nat} {e gen : Int} {c : List UInt8} (hc : now[a]? = some c) (h : e ≤ a ∨ get4 c ≠ BitVec.ofInt 32 gen ∨ crc (c.take 12) ≠ get4 (c.drop 12)) : oneOf now a e gen = none := by
  have hlt := (List.getElem?_eq_some_iff.1 hc).1
  unfold oneOf
  rw [if_pos ⟨by omega, by omega⟩]
  simp only [Int.toNat_natCast, hc, Option.getD_some]
  rw [if_pos h]
theorem oneOf_size {now : List (List UInt8)} {a : Nat} {e gen : Int} {c : List UInt8} (hc : now[a]? = some c) (h : ¬ (e ≤ a ∨ get4 c ≠ BitVec.ofInt 32 gen ∨ crc (c.take 12) ≠ get4 (c.drop 12)))
    (h2 : 8192 < (get4 (c.drop 4)).toNat ∨ min e now.length - a < sizeOf (get4 (c.drop 4)).toNat) : oneOf now a e gen = none := by
  have hlt := (List.getElem?_eq_some_iff.1 hc).1
  unfold oneOf
  rw [if_pos ⟨by omega, by omega⟩]
  simp only [Int.toNat_natCast, hc, Option.getD_some]
  rw [if_neg h, if_pos h2]
theorem oneOf_go {now : List (List UInt8)} {a nn : Nat} {e gen : Int} {c : List UInt8} (hc : now[a]? = some c) (h : ¬ (e ≤ a ∨ get4 c ≠ BitVec.ofInt 32 gen ∨ crc (c.take 12) ≠ get4 (c.drop 12)))
    (h2 : ¬ (8192 < (get4 (c.drop 4)).toNat ∨ min e now.length - a < sizeOf (get4 (c.drop 4)).toNat)) (hn : sizeOf (get4 (c.drop 4)).toNat = nn) :
    oneOf now a e gen = if head16 (BitVec.ofInt 32 gen) ((bodyAt now a (nn - 1)).take (get4 (c.drop 4)).toNat) = c.take 16 ∧ (c.drop 16).all (· == 0) = true ∧ ((bodyAt now a (nn - 1)).drop (get4 (c.drop 4)).toNat).all (· == 0) = true
      then some ((bodyAt now a (nn - 1)).take (get4 (c.drop 4)).toNat) else none := by
  have hlt := (List.getElem?_eq_some_iff.1 hc).1
  unfold oneOf
  rw [if_pos ⟨by omega, by omega⟩]
  simp only [Int.toNat_natCast, hc, Option.getD_some]
  rw [if_neg h, if_neg h2, hn, Int.toNat_natCast]

theorem on0 (p : Nat) (at' e gen : Int) : ([dp p, .int .i64 at', .int .i64 e, .int .i64 gen] ++ List.replicate (104 - [dp p, .int .i64 at', .int .i64 e, .int .i64 gen].length) AV.undef) = st 104 [(0, dp p), (1, .int .i64 at'), (2, .int .i64 e), (3, .int .i64 gen)] := rfl

theorem neq27 (a : Int) : aBinC tab .neq 27 (.int .i64 a) (.int .i64 0) true = some (.bool (decide (a ≠ 0))) := bin_neq _ _ _ _ _ _

theorem one_ok {S : Obs} {p r : Nat} {h : Heap} {d : Dk} (D : Dsk S h p r d) (hl : d.loose.length < 2 ^ 30) (at' e gen : Int) (k : Nat) (hk : d.loose.length + 9000 < k) :
    ∃ x h', exFn C0 E0 (k + 1) false 48 [dp p, .int .i64 at', .int .i64 e, .int .i64 gen] h = some (.tuple [x, .bool (oneOf d.now at' e gen).isSome], h') ∧
      (∀ b, oneOf d.now at' e gen = some b → ApB (From h.length) h' x b) ∧ Keep (From h.length) h h' := by
  obtain ⟨k, rfl⟩ : ∃ j, k = j + 9 := ⟨k - 9, by omega⟩
  have up := Up.fresh h
  have hnl := D.now_length
  have hfew := D.few
  obtain ⟨y, h1, r1, r2, r3⟩ := read_ok D hl at' (k + 8) (by omega)
  by_cases h0 : d.has at'
  case neg =>
    have hrd : d.read at' = ([], 1) := if_neg h0
    rw [hrd] at r1
    have ho : oneOf d.now at' e gen = none := oneOf_out (by rw [hnl]; exact h0)
    rw [ho]
    refine ⟨.nils, h1, exFn_of e48 ?_, (fun b hb => by cases hb), r3⟩
    have c1 : decide ((1 : Int) ≠ 0) = true := by decide
    rw [fnK, on0, s48]
    simp -implicitDefEqProofs only [↓runK_seq, runK_seq, ↓runK_cond, runK_cond, ↓runK_block, runK_block, ↓runK_loop, runK_loop, ↓runK_skip, runK_skip, ↓runK_ret, runK_ret, ↓runK_exit, runK_exit, ↓seqE_n, seqE_n, ↓seqE_e, seqE_e, ↓seqE_r, seqE_r, ↓blkE_n, blkE_n, ↓blkE_e, blkE_e, ↓blkE_r, blkE_r, ↓retK_n, retK_n, ↓retK_r, retK_r, ↓aCall_fn, aCall_fn, ↓bnd_s, bnd_s, ↓bnd2_s, bnd2_s, ↓onB_t, onB_t, ↓onB_f, onB_f, ↓onG_tt, onG_tt, ↓onG_tf, onG_tf, ↓onG_ft, onG_ft, ↓onG_ff, onG_ff, ↓onG_s, onG_s, ↓onT_t, onT_t, ↓aPick_t, aPick_t, ↓aPick_f, aPick_f, decide_true, decide_false, st_tmp, results1, results2, List.lookup_cons, List.lookup_nil, Nat.reduceBEq, Bool.false_eq_true, ↓reduceIte, BEq.rfl, Nat.reduceLT, Option.getD_some, Option.getD_none, ↓r48_0, r48_0, ↓r48_1, r48_1, ↓r48_2, r48_2, J48_2_0, J48_2_1, J48_2_2, J48_2_3, J48_2_4, J48_2_5, J48_2_6, ↓r48_3, r48_3, ↓r48_4, r48_4, ↓r48_5, r48_5, J48_5_0, J48_5_1, J48_5_2, ↓r48_6, r48_6, ↓r48_7, r48_7, ↓r48_8, r48_8, ↓r48_9, r48_9, ↓r48_10, r48_10, ↓r48_11, r48_11, ↓r48_12, r48_12, ↓r48_13, r48_13, ↓r48_14, r48_14, ↓r48_15, r48_15, J48_15_0, J48_15_1, J48_15_2, J48_15_3, J48_15_4, r1, ext0, ext1, neq27, c1, Option.isSome_none]
  obtain ⟨a, rfl⟩ : ∃ a : Nat, at' = a := ⟨at'.toNat, by have := h0.1; omega⟩
  have hlt : a < d.now.length := by have := h0.2; omega
  have hrd : d.read (a : Int) = (d.now[a], 0) := by
    unfold Dk.read
    rw [if_pos h0, Int.toNat_natCast, List.getElem?_eq_getElem hlt]
    rfl
  have hlen := D.now_cells _ (List.getElem_mem hlt)
  have hc : d.now[a]? = some d.now[a] := List.getElem?_eq_getElem hlt
  rw [hrd] at r1 r2
  generalize d.now[a] = c at *
  have c0 : decide ((0 : Int) ≠ 0) = false := by decide
  have by1 : Bs y c := r2.bs
  by_cases q1 : e ≤ (a : Int)
  · have e1 : decide (e ≤ (a : Int)) = true := decide_eq_true q1
    rw [oneOf_head hc (.inl q1)]
    refine ⟨.nils, h1, exFn_of e48 ?_, (fun b hb => by cases hb), r3⟩
    rw [fnK, on0, s48]
    simp -implicitDefEqProofs only [↓runK_seq, runK_seq, ↓runK_cond, runK_cond, ↓runK_block, runK_block, ↓runK_loop, runK_loop, ↓runK_skip, runK_skip, ↓runK_ret, runK_ret, ↓runK_exit, runK_exit, ↓seqE_n, seqE_n, ↓seqE_e, seqE_e, ↓seqE_r, seqE_r, ↓blkE_n, blkE_n, ↓blkE_e, blkE_e, ↓blkE_r, blkE_r, ↓retK_n, retK_n, ↓retK_r, retK_r, ↓aCall_fn, aCall_fn, ↓bnd_s, bnd_s, ↓bnd2_s, bnd2_s, ↓onB_t, onB_t, ↓onB_f, onB_f, ↓onG_tt, onG_tt, ↓onG_tf, onG_tf, ↓onG_ft, onG_ft, ↓onG_ff, onG_ff, ↓onG_s, onG_s, ↓onT_t, onT_t, ↓aPick_t, aPick_t, ↓aPick_f, aPick_f, decide_true, decide_false, st_tmp, results1, results2, List.lookup_cons, List.lookup_nil, Nat.reduceBEq, Bool.false_eq_true, ↓reduceIte, BEq.rfl, Nat.reduceLT, Option.getD_some, Option.getD_none, ↓r48_0, r48_0, ↓r48_1, r48_1, ↓r48_2, r48_2, J48_2_0, J48_2_1, J48_2_2, J48_2_3, J48_2_4, J48_2_5, J48_2_6, ↓r48_3, r48_3, ↓r48_4, r48_4, ↓r48_5, r48_5, J48_5_0, J48_5_1, J48_5_2, ↓r48_6, r48_6, ↓r48_7, r48_7, ↓r48_8, r48_8, ↓r48_9, r48_9, ↓r48_10, r48_10, ↓r48_11, r48_11, ↓r48_12, r48_12, ↓r48_13, r48_13, ↓r48_14, r48_14, ↓r48_15, r48_15, J48_15_0, J48_15_1, J48_15_2, J48_15_3, J48_15_4, r1, ext0, ext1, neq27, c0, bin_geq, e1, Option.isSome_none]
  have e1 : decide (e ≤ (a : Int)) = false := decide_eq_false q1
  have g1 := get_ok by1 (by omega) (by omega) false h1 (k + 9) (by omega)
  have cv := conv_64_32 h1 gen
  by_cases q2 : get4 c = BitVec.ofInt 32 gen
  case neg =>
    have e2 : decide (get4 c ≠ BitVec.ofInt 32 gen) = true := decide_eq_true q2
    rw [oneOf_head hc (.inr (.inl q2))]
    refine ⟨.nils, h1, exFn_of e48 ?_, (fun b hb => by cases hb), r3⟩
    rw [fnK, on0, s48]
    simp -implicitDefEqProofs only [↓runK_seq, runK_seq, ↓runK_cond, runK_cond, ↓runK_block, runK_block, ↓runK_loop, runK_loop, ↓runK_skip, runK_skip, ↓runK_ret, runK_ret, ↓runK_exit, runK_exit, ↓seqE_n, seqE_n, ↓seqE_e, seqE_e, ↓seqE_r, seqE_r, ↓blkE_n, blkE_n, ↓blkE_e, blkE_e, ↓blkE_r, blkE_r, ↓retK_n, retK_n, ↓retK_r, retK_r, ↓aCall_fn, aCall_fn, ↓bnd_s, bnd_s, ↓bnd2_s, bnd2_s, ↓onB_t, onB_t, ↓onB_f, onB_f, ↓onG_tt, onG_tt, ↓onG_tf, onG_tf, ↓onG_ft, onG_ft, ↓onG_ff, onG_ff, ↓onG_s, onG_s, ↓onT_t, onT_t, ↓aPick_t, aPick_t, ↓aPick_f, aPick_f, decide_true, decide_false, st_tmp, results1, results2, List.lookup_cons, List.lookup_nil, Nat.reduceBEq, Bool.false_eq_true, ↓reduceIte, BEq.rfl, Nat.reduceLT, Option.getD_some, Option.getD_none, ↓r48_0, r48_0, ↓r48_1, r48_1, ↓r48_2, r48_2, J48_2_0, J48_2_1, J48_2_2, J48_2_3, J48_2_4, J48_2_5, J48_2_6, ↓r48_3, r48_3, ↓r48_4, r48_4, ↓r48_5, r48_5, J48_5_0, J48_5_1, J48_5_2, ↓r48_6, r48_6, ↓r48_7, r48_7, ↓r48_8, r48_8, ↓r48_9, r48_9, ↓r48_10, r48_10, ↓r48_11, r48_11, ↓r48_12, r48_12, ↓r48_13, r48_13, ↓r48_14, r48_14, ↓r48_15, r48_15, J48_15_0, J48_15_1, J48_15_2, J48_15_3, J48_15_4, r1, ext0, ext1, neq27, c0, bin_geq, e1, g1, cv, u32_neq, e2, Option.isSome_none]
  have e2 : decide (get4 c ≠ BitVec.ofInt 32 gen) = false := decide_eq_false (fun h => h q2)
  obtain ⟨z1, sz1, bz1⟩ := by1.to 12 (by omega)
  obtain ⟨z2, sz2, bz2⟩ := by1.from 12 (by omega)
  simp only [Int.cast_ofNat_Int] at sz1 sz2
  have g2 := sum_of bz1 (by simp; omega) false h1 (k + 9) (by simp; omega)
  have g3 := get_ok bz2 (by simp; omega) (by simp; omega) false h1 (k + 9) (by omega)
  by_cases q3 : crc (c.take 12) = get4 (c.drop 12)
  case neg =>
    have e3 : decide (crc (c.take 12) ≠ get4 (c.drop 12)) = true := decide_eq_true q3
    rw [oneOf_head hc (.inr (.inr q3))]
    refine ⟨.nils, h1, exFn_of e48 ?_, (fun b hb => by cases hb), r3⟩
    rw [fnK, on0, s48]
    simp -implicitDefEqProofs only [↓runK_seq, runK_seq, ↓runK_cond, runK_cond, ↓runK_block, runK_block, ↓runK_loop, runK_loop, ↓runK_skip, runK_skip, ↓runK_ret, runK_ret, ↓runK_exit, runK_exit, ↓seqE_n, seqE_n, ↓seqE_e, seqE_e, ↓seqE_r, seqE_r, ↓blkE_n, blkE_n, ↓blkE_e, blkE_e, ↓blkE_r, blkE_r, ↓retK_n, retK_n, ↓retK_r, retK_r, ↓aCall_fn, aCall_fn, ↓bnd_s, bnd_s, ↓bnd2_s, bnd2_s, ↓onB_t, onB_t, ↓onB_f, onB_f, ↓onG_tt, onG_tt, ↓onG_tf, onG_tf, ↓onG_ft, onG_ft, ↓onG_ff, onG_ff, ↓onG_s, onG_s, ↓onT_t, onT_t, ↓aPick_t, aPick_t, ↓aPick_f, aPick_f, decide_true, decide_false, st_tmp, results1, results2, List.lookup_cons, List.lookup_nil, Nat.reduceBEq, Bool.false_eq_true, ↓reduceIte, BEq.rfl, Nat.reduceLT, Option.getD_some, Option.getD_none, ↓r48_0, r48_0, ↓r48_1, r48_1, ↓r48_2, r48_2, J48_2_0, J48_2_1, J48_2_2, J48_2_3, J48_2_4, J48_2_5, J48_2_6, ↓r48_3, r48_3, ↓r48_4, r48_4, ↓r48_5, r48_5, J48_5_0, J48_5_1, J48_5_2, ↓r48_6, r48_6, ↓r48_7, r48_7, ↓r48_8, r48_8, ↓r48_9, r48_9, ↓r48_10, r48_10, ↓r48_11, r48_11, ↓r48_12, r48_12, ↓r48_13, r48_13, ↓r48_14, r48_14, ↓r48_15, r48_15, J48_15_0, J48_15_1, J48_15_2, J48_15_3, J48_15_4, r1, ext0, ext1, neq27, c0, bin_geq, e1, g1, cv, u32_neq, e2, sz1, sz2, g2, g3, e3, Option.isSome_none]
  have e3 : decide (crc (c.take 12) ≠ get4 (c.drop 12)) = false := decide_eq_false (fun h => h q3)
  have hh : ¬ (e ≤ a ∨ get4 c ≠ BitVec.ofInt 32 gen ∨ crc (c.take 12) ≠ get4 (c.drop 12)) := fun h => h.elim q1 fun h => h.elim (fun h => h q2) fun h => h q3
  obtain ⟨z3, sz3, bz3⟩ := by1.from 4 (by omega)
  simp only [Int.cast_ofNat_Int] at sz3
  have g4 := get_ok bz3 (by simp; omega) (by simp; omega) false h1 (k + 9) (by omega)
  have cv2 := conv_32_64 h1 (get4 (c.drop 4))
  have hgo := fun nn h2 hn => oneOf_go (nn := nn) hc hh h2 hn
  have hsize := fun h2 => oneOf_size hc hh h2
  have hsl : (get4 (c.drop 4)).toNat < 2 ^ 32 := (get4 (c.drop 4)).isLt
  generalize hsz : (get4 (c.drop 4)).toNat = size at *
  have D1 := D.fresh r3
  by_cases q4 : 8192 < size
  · have e4 : decide ((8192 : Int) < (size : Nat)) = true := decide_eq_true (by omega)
    rw [hsize (.inl q4)]
    refine ⟨.nils, h1, exFn_of e48 ?_, (fun b hb => by cases hb), r3⟩
    rw [fnK, on0, s48]
    simp -implicitDefEqProofs only [↓runK_seq, runK_seq, ↓runK_cond, runK_cond, ↓runK_block, runK_block, ↓runK_loop, runK_loop, ↓runK_skip, runK_skip, ↓runK_ret, runK_ret, ↓runK_exit, runK_exit, ↓seqE_n, seqE_n, ↓seqE_e, seqE_e, ↓seqE_r, seqE_r, ↓blkE_n, blkE_n, ↓blkE_e, blkE_e, ↓blkE_r, blkE_r, ↓retK_n, retK_n, ↓retK_r, retK_r, ↓aCall_fn, aCall_fn, ↓bnd_s, bnd_s, ↓bnd2_s, bnd2_s, ↓onB_t, onB_t, ↓onB_f, onB_f, ↓onG_tt, onG_tt, ↓onG_tf, onG_tf, ↓onG_ft, onG_ft, ↓onG_ff, onG_ff, ↓onG_s, onG_s, ↓onT_t, onT_t, ↓aPick_t, aPick_t, ↓aPick_f, aPick_f, decide_true, decide_false, st_tmp, results1, results2, List.lookup_cons, List.lookup_nil, Nat.reduceBEq, Bool.false_eq_true, ↓reduceIte, BEq.rfl, Nat.reduceLT, Option.getD_some, Option.getD_none, ↓r48_0, r48_0, ↓r48_1, r48_1, ↓r48_2, r48_2, J48_2_0, J48_2_1, J48_2_2, J48_2_3, J48_2_4, J48_2_5, J48_2_6, ↓r48_3, r48_3, ↓r48_4, r48_4, ↓r48_5, r48_5, J48_5_0, J48_5_1, J48_5_2, ↓r48_6, r48_6, ↓r48_7, r48_7, ↓r48_8, r48_8, ↓r48_9, r48_9, ↓r48_10, r48_10, ↓r48_11, r48_11, ↓r48_12, r48_12, ↓r48_13, r48_13, ↓r48_14, r48_14, ↓r48_15, r48_15, J48_15_0, J48_15_1, J48_15_2, J48_15_3, J48_15_4, r1, ext0, ext1, neq27, c0, bin_geq, e1, g1, cv, u32_neq, e2, sz1, sz2, g2, g3, e3, sz3, g4, cv2, bin_gtr, e4, Option.isSome_none]
  have e4 : decide ((8192 : Int) < (size : Nat)) = false := decide_eq_false (by omega)
  have sk := size_ok (size : Int) (by omega) false h1 (k + 8)
  have lk := len_ok D1 false (k + 8)
  have mn : (if ((d.lasts.length : Nat) : Int) < e then ((d.lasts.length : Nat) : Int) else e) = min e d.now.length := by rw [hnl]; split <;> omega
  have ws : IntKind.i64.wrap (min e d.now.length - (a : Int)) = min e d.now.length - a := by rw [wrap_i64] <;> omega
  by_cases q5 : min e d.now.length - (a : Int) < sizeOf size
  · have e5 : decide (min e d.now.length - (a : Int) < sizeOf size) = true := decide_eq_true q5
    rw [hsize (.inr q5)]
    refine ⟨.nils, h1, exFn_of e48 ?_, (fun b hb => by cases hb), r3⟩
    rw [fnK, on0, s48]
    simp -implicitDefEqProofs only [↓runK_seq, runK_seq, ↓runK_cond, runK_cond, ↓runK_block, runK_block, ↓runK_loop, runK_loop, ↓runK_skip, runK_skip, ↓runK_ret, runK_ret, ↓runK_exit, runK_exit, ↓seqE_n, seqE_n, ↓seqE_e, seqE_e, ↓seqE_r, seqE_r, ↓blkE_n, blkE_n, ↓blkE_e, blkE_e, ↓blkE_r, blkE_r, ↓retK_n, retK_n, ↓retK_r, retK_r, ↓aCall_fn, aCall_fn, ↓bnd_s, bnd_s, ↓bnd2_s, bnd2_s, ↓onB_t, onB_t, ↓onB_f, onB_f, ↓onG_tt, onG_tt, ↓onG_tf, onG_tf, ↓onG_ft, onG_ft, ↓onG_ff, onG_ff, ↓onG_s, onG_s, ↓onT_t, onT_t, ↓aPick_t, aPick_t, ↓aPick_f, aPick_f, decide_true, decide_false, st_tmp, results1, results2, List.lookup_cons, List.lookup_nil, Nat.reduceBEq, Bool.false_eq_true, ↓reduceIte, BEq.rfl, Nat.reduceLT, Option.getD_some, Option.getD_none, ↓r48_0, r48_0, ↓r48_1, r48_1, ↓r48_2, r48_2, J48_2_0, J48_2_1, J48_2_2, J48_2_3, J48_2_4, J48_2_5, J48_2_6, ↓r48_3, r48_3, ↓r48_4, r48_4, ↓r48_5, r48_5, J48_5_0, J48_5_1, J48_5_2, ↓r48_6, r48_6, ↓r48_7, r48_7, ↓r48_8, r48_8, ↓r48_9, r48_9, ↓r48_10, r48_10, ↓r48_11, r48_11, ↓r48_12, r48_12, ↓r48_13, r48_13, ↓r48_14, r48_14, ↓r48_15, r48_15, J48_15_0, J48_15_1, J48_15_2, J48_15_3, J48_15_4, r1, ext0, ext1, neq27, c0, bin_geq, e1, g1, cv, u32_neq, e2, sz1, sz2, g2, g3, e3, sz3, g4, cv2, bin_gtr, e4, sk, lk, min2_i64, mn, bin_sub, ws, e5, Option.isSome_none]
  have e5 : decide (min e d.now.length - (a : Int) < sizeOf size) = false := decide_eq_false q5
  obtain ⟨nn, hnn⟩ : ∃ nn : Nat, sizeOf size = nn := ⟨(sizeOf size).toNat, by unfold sizeOf; omega⟩
  have hnn1 : (nn : Int) = 1 + ((size : Int) + 63) / 64 := by rw [← hnn]; unfold sizeOf; omega
  rw [hgo nn (fun h => h.elim q4 q5) hnn]
  have han : a + nn ≤ d.lasts.length := by omega
  have a0 : ApB (From h.length) h1 .nils (bodyAt d.now a 0) := .inl ⟨rfl, by simp [bodyAt]⟩
  obtain ⟨acc, h2, f1, f2, f3⟩ := one_loop (U := From h.length) hl (S := fun i => i < h.length) (fun i hi hj => absurd hj (Nat.not_le.2 hi)) a nn size (by omega) hnn han (.int .i64 gen) y (k + 8) (by omega)
    (nn - 1) 0 (k + 9) .nils h1 (by omega) (by omega) (up.keep r3) (D.low.fresh r3) a0
  have hbl := bodyAt_length d.now D.now_cells a (nn - 1) (by omega)
  generalize bodyAt d.now a (nn - 1) = all at *
  rw [show ((0 + 1 : Nat) : Int) = 1 from rfl] at f1
  obtain ⟨w1, sw1, bw1⟩ := f2.bs.from size (by omega)
  obtain ⟨w2, sw2, bw2⟩ := f2.bs.cut size (by omega) (From h.length) h2
  have hbt : (all.take size).length = size := by rw [List.length_take]; omega
  obtain ⟨w3, h3, p1, p2, p3⟩ := first_ok bw2.bs (by omega) gen h2 (k + 8) (by omega)
  obtain ⟨w4, sw4, bw4⟩ := by1.to 16 (by omega)
  obtain ⟨w5, sw5, bw5⟩ := by1.from 16 (by omega)
  simp only [Int.cast_ofNat_Int] at sw4 sw5
  have t1 := equal_ok p2.bs bw4 false h3 (k + 8)
  have t2 := zero_ok bw5 false h3 (k + 6)
  have t3 := zero_ok bw1 false h3 (k + 6)
  have run : ∀ ok : Bool, (head16 (BitVec.ofInt 32 gen) (all.take size) = c.take 16 ∧ (c.drop 16).all (· == 0) = true ∧ (all.drop size).all (· == 0) = true ↔ ok = true) →
      exFn C0 E0 (k + 9 + 1) false 48 [dp p, .int .i64 a, .int .i64 e, .int .i64 gen] h = some (.tuple [w2, .bool ok], h3) := by
    intro ok hok
    refine exFn_of e48 ?_
    rw [fnK, on0, s48]
    simp -implicitDefEqProofs only [↓runK_seq, runK_seq, ↓runK_cond, runK_cond, ↓runK_block, runK_block, ↓runK_loop, runK_loop, ↓runK_skip, runK_skip, ↓runK_ret, runK_ret, ↓runK_exit, runK_exit, ↓seqE_n, seqE_n, ↓seqE_e, seqE_e, ↓seqE_r, seqE_r, ↓blkE_n, blkE_n, ↓blkE_e, blkE_e, ↓blkE_r, blkE_r, ↓retK_n, retK_n, ↓retK_r, retK_r, ↓aCall_fn, aCall_fn, ↓bnd_s, bnd_s, ↓bnd2_s, bnd2_s, ↓onB_t, onB_t, ↓onB_f, onB_f, ↓onG_tt, onG_tt, ↓onG_tf, onG_tf, ↓onG_ft, onG_ft, ↓onG_ff, onG_ff, ↓onG_s, onG_s, ↓onT_t, onT_t, ↓aPick_t, aPick_t, ↓aPick_f, aPick_f, decide_true, decide_false, st_tmp, results1, results2, List.lookup_cons, List.lookup_nil, Nat.reduceBEq, Bool.false_eq_true, ↓reduceIte, BEq.rfl, Nat.reduceLT, Option.getD_some, Option.getD_none, ↓r48_0, r48_0, ↓r48_1, r48_1, ↓r48_2, r48_2, J48_2_0, J48_2_1, J48_2_2, J48_2_3, J48_2_4, J48_2_5, J48_2_6, ↓r48_3, r48_3, ↓r48_4, r48_4, ↓r48_5, r48_5, J48_5_0, J48_5_1, J48_5_2, ↓r48_6, r48_6, ↓r48_7, r48_7, ↓r48_8, r48_8, ↓r48_9, r48_9, ↓r48_10, r48_10, ↓r48_11, r48_11, ↓r48_12, r48_12, ↓r48_13, r48_13, ↓r48_14, r48_14, ↓r48_15, r48_15, J48_15_0, J48_15_1, J48_15_2, J48_15_3, J48_15_4, r1, ext0, ext1, neq27, c0, bin_geq, e1, g1, cv, u32_neq, e2, sz1, sz2, g2, g3, e3, sz3, g4, cv2, bin_gtr, e4, sk, lk, min2_i64, mn, bin_sub, ws, e5, f1, sw1, sw2, p1, sw4, t1]
    by_cases m1 : head16 (BitVec.ofInt 32 gen) (all.take size) = c.take 16
    · rw [show decide (head16 (BitVec.ofInt 32 gen) (all.take size) = c.take 16) = true from decide_eq_true m1]
      cases m2 : (c.drop 16).all (· == 0)
      · obtain rfl : ok = false := by simpa [m2] using hok
        rw [m2] at t2
        simp -implicitDefEqProofs only [↓runK_seq, runK_seq, ↓runK_cond, runK_cond, ↓runK_block, runK_block, ↓runK_loop, runK_loop, ↓runK_skip, runK_skip, ↓runK_ret, runK_ret, ↓runK_exit, runK_exit, ↓seqE_n, seqE_n, ↓seqE_e, seqE_e, ↓seqE_r, seqE_r, ↓blkE_n, blkE_n, ↓blkE_e, blkE_e, ↓blkE_r, blkE_r, ↓retK_n, retK_n, ↓retK_r, retK_r, ↓aCall_fn, aCall_fn, ↓bnd_s, bnd_s, ↓bnd2_s, bnd2_s, ↓onB_t, onB_t, ↓onB_f, onB_f, ↓onG_tt, onG_tt, ↓onG_tf, onG_tf, ↓onG_ft, onG_ft, ↓onG_ff, onG_ff, ↓onG_s, onG_s, ↓onT_t, onT_t, ↓aPick_t, aPick_t, ↓aPick_f, aPick_f, decide_true, decide_false, st_tmp, results1, results2, List.lookup_cons, List.lookup_nil, Nat.reduceBEq, Bool.false_eq_true, ↓reduceIte, BEq.rfl, Nat.reduceLT, Option.getD_some, Option.getD_none, ↓r48_0, r48_0, ↓r48_1, r48_1, ↓r48_2, r48_2, J48_2_0, J48_2_1, J48_2_2, J48_2_3, J48_2_4, J48_2_5, J48_2_6, ↓r48_3, r48_3, ↓r48_4, r48_4, ↓r48_5, r48_5, J48_5_0, J48_5_1, J48_5_2, ↓r48_6, r48_6, ↓r48_7, r48_7, ↓r48_8, r48_8, ↓r48_9, r48_9, ↓r48_10, r48_10, ↓r48_11, r48_11, ↓r48_12, r48_12, ↓r48_13, r48_13, ↓r48_14, r48_14, ↓r48_15, r48_15, J48_15_0, J48_15_1, J48_15_2, J48_15_3, J48_15_4, sw5, t2]
      · rw [m2] at t2
        cases m3 : (all.drop size).all (· == 0)
        · obtain rfl : ok = false := by simpa [m3] using hok
          rw [m3] at t3
          simp -implicitDefEqProofs only [↓runK_seq, runK_seq, ↓runK_cond, runK_cond, ↓runK_block, runK_block, ↓runK_loop, runK_loop, ↓runK_skip, runK_skip, ↓runK_ret, runK_ret, ↓runK_exit, runK_exit, ↓seqE_n, seqE_n, ↓seqE_e, seqE_e, ↓seqE_r, seqE_r, ↓blkE_n, blkE_n, ↓blkE_e, blkE_e, ↓blkE_r, blkE_r, ↓retK_n, retK_n, ↓retK_r, retK_r, ↓aCall_fn, aCall_fn, ↓bnd_s, bnd_s, ↓bnd2_s, bnd2_s, ↓onB_t, onB_t, ↓onB_f, onB_f, ↓onG_tt, onG_tt, ↓onG_tf, onG_tf, ↓onG_ft, onG_ft, ↓onG_ff, onG_ff, ↓onG_s, onG_s, ↓onT_t, onT_t, ↓aPick_t, aPick_t, ↓aPick_f, aPick_f, decide_true, decide_false, st_tmp, results1, results2, List.lookup_cons, List.lookup_nil, Nat.reduceBEq, Bool.false_eq_true, ↓reduceIte, BEq.rfl, Nat.reduceLT, Option.getD_some, Option.getD_none, ↓r48_0, r48_0, ↓r48_1, r48_1, ↓r48_2, r48_2, J48_2_0, J48_2_1, J48_2_2, J48_2_3, J48_2_4, J48_2_5, J48_2_6, ↓r48_3, r48_3, ↓r48_4, r48_4, ↓r48_5, r48_5, J48_5_0, J48_5_1, J48_5_2, ↓r48_6, r48_6, ↓r48_7, r48_7, ↓r48_8, r48_8, ↓r48_9, r48_9, ↓r48_10, r48_10, ↓r48_11, r48_11, ↓r48_12, r48_12, ↓r48_13, r48_13, ↓r48_14, r48_14, ↓r48_15, r48_15, J48_15_0, J48_15_1, J48_15_2, J48_15_3, J48_15_4, sw5, t2, t3]
        · obtain rfl : ok = true := by simpa [m1, m2, m3] using hok
          rw [m3] at t3
          simp -implicitDefEqProofs only [↓runK_seq, runK_seq, ↓runK_cond, runK_cond, ↓runK_block, runK_block, ↓runK_loop, runK_loop, ↓runK_skip, runK_skip, ↓runK_ret, runK_ret, ↓runK_exit, runK_exit, ↓seqE_n, seqE_n, ↓seqE_e, seqE_e, ↓seqE_r, seqE_r, ↓blkE_n, blkE_n, ↓blkE_e, blkE_e, ↓blkE_r, blkE_r, ↓retK_n, retK_n, ↓retK_r, retK_r, ↓aCall_fn, aCall_fn, ↓bnd_s, bnd_s, ↓bnd2_s, bnd2_s, ↓onB_t, onB_t, ↓onB_f, onB_f, ↓onG_tt, onG_tt, ↓onG_tf, onG_tf, ↓onG_ft, onG_ft, ↓onG_ff, onG_ff, ↓onG_s, onG_s, ↓onT_t, onT_t, ↓aPick_t, aPick_t, ↓aPick_f, aPick_f, decide_true, decide_false, st_tmp, results1, results2, List.lookup_cons, List.lookup_nil, Nat.reduceBEq, Bool.false_eq_true, ↓reduceIte, BEq.rfl, Nat.reduceLT, Option.getD_some, Option.getD_none, ↓r48_0, r48_0, ↓r48_1, r48_1, ↓r48_2, r48_2, J48_2_0, J48_2_1, J48_2_2, J48_2_3, J48_2_4, J48_2_5, J48_2_6, ↓r48_3, r48_3, ↓r48_4, r48_4, ↓r48_5, r48_5, J48_5_0, J48_5_1, J48_5_2, ↓r48_6, r48_6, ↓r48_7, r48_7, ↓r48_8, r48_8, ↓r48_9, r48_9, ↓r48_10, r48_10, ↓r48_11, r48_11, ↓r48_12, r48_12, ↓r48_13, r48_13, ↓r48_14, r48_14, ↓r48_15, r48_15, J48_15_0, J48_15_1, J48_15_2, J48_15_3, J48_15_4, sw5, t2, t3]
    · obtain rfl : ok = false := by simpa [m1] using hok
      rw [show decide (head16 (BitVec.ofInt 32 gen) (all.take size) = c.take 16) = false from decide_eq_false m1]
      simp -implicitDefEqProofs only [↓runK_seq, runK_seq, ↓runK_cond, runK_cond, ↓runK_block, runK_block, ↓runK_loop, runK_loop, ↓runK_skip, runK_skip, ↓runK_ret, runK_ret, ↓runK_exit, runK_exit, ↓seqE_n, seqE_n, ↓seqE_e, seqE_e, ↓seqE_r, seqE_r, ↓blkE_n, blkE_n, ↓blkE_e, blkE_e, ↓blkE_r, blkE_r, ↓retK_n, retK_n, ↓retK_r, retK_r, ↓aCall_fn, aCall_fn, ↓bnd_s, bnd_s, ↓bnd2_s, bnd2_s, ↓onB_t, onB_t, ↓onB_f, onB_f, ↓onG_tt, onG_tt, ↓onG_tf, onG_tf, ↓onG_ft, onG_ft, ↓onG_ff, onG_ff, ↓onG_s, onG_s, ↓onT_t, onT_t, ↓aPick_t, aPick_t, ↓aPick_f, aPick_f, decide_true, decide_false, st_tmp, results1, results2, List.lookup_cons, List.lookup_nil, Nat.reduceBEq, Bool.false_eq_true, ↓reduceIte, BEq.rfl, Nat.reduceLT, Option.getD_some, Option.getD_none, ↓r48_0, r48_0, ↓r48_1, r48_1, ↓r48_2, r48_2, J48_2_0, J48_2_1, J48_2_2, J48_2_3, J48_2_4, J48_2_5, J48_2_6, ↓r48_3, r48_3, ↓r48_4, r48_4, ↓r48_5, r48_5, J48_5_0, J48_5_1, J48_5_2, ↓r48_6, r48_6, ↓r48_7, r48_7, ↓r48_8, r48_8, ↓r48_9, r48_9, ↓r48_10, r48_10, ↓r48_11, r48_11, ↓r48_12, r48_12, ↓r48_13, r48_13, ↓r48_14, r48_14, ↓r48_15, r48_15, J48_15_0, J48_15_1, J48_15_2, J48_15_3, J48_15_4]
  have kk := ((r3.trans f3).fresh p3 up)
  split
  · rename_i hcond
    refine ⟨w2, h3, run true (by simpa using hcond), fun b hb => ?_, kk⟩
    cases hb
    exact bw2.fresh p3
  · rename_i hcond
    exact ⟨w2, h3, run false (by simpa using hcond), (fun b hb => by cases hb), kk⟩
end Go.Ax
