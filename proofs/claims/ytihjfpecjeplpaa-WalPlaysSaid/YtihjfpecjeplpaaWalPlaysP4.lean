/- An interpreter of Go code over a small abstract heap, proved sound against the model, and what the functions that WalPlays reaches compute (part 4); each theorem for the inputs that it names. -/
import Derived.Test.YtihjfpecjeplpaaWalPlaysP3
set_option linter.unusedSimpArgs false
set_option linter.unusedVariables false
set_option linter.defProp false

namespace Go.Ax
open Go Go.Proofs
def entryOf (gen : Int) (b : List UInt8) : List (List UInt8) := pad (head16 (BitVec.ofInt 32 gen) b) :: (List.range' 1 (nOf b - 1)).map fun j => pad (chunk b j)
theorem entryOf_length (gen : Int) (b : List UInt8) : (entryOf gen b).length = nOf b := by
  have := nOf_eq' b
  simp [entryOf]; omega
theorem entryOf_head (gen : Int) (b : List UInt8) : (entryOf gen b)[0]? = some (pad (head16 (BitVec.ofInt 32 gen) b)) := rfl
theorem entryOf_get (gen : Int) (b : List UInt8) (j : Nat) (h1 : 1 ≤ j) (h2 : j < nOf b) : (entryOf gen b)[j]? = some (pad (chunk b j)) := by
  obtain ⟨j, rfl⟩ : ∃ i, j = i + 1 := ⟨j - 1, by omega⟩
  unfold entryOf
  rw [List.getElem?_cons_succ, List.getElem?_map, List.getElem?_range' (by omega)]
  simp [Nat.add_comm]
theorem nOf_pos' (b : List UInt8) : 1 ≤ nOf b := by have := nOf_eq' b; omega
theorem ApR.exact {S : Obs} {h : Heap} {v : AV} {b : List UInt8} (hv : Bs v b) : ApR S h (.vsl 22 [v] .exact) [b] := ⟨[v], .inr ⟨_, rfl, .inl rfl⟩, .cons hv .nil⟩
theorem sec_loop {x : AV} {b : List UInt8} (hx : Bs x b) (hb : b.length < 2 ^ 40) (hd : List UInt8) {S : Obs} (N : Nat) :
    ∀ (m j n : Nat) (h : Heap) (acc : AV), j + m = nOf b - 1 → m < n → Up S h → ApR S h acc (hd :: (List.range' 1 j).map fun j => pad (chunk b j)) →
    ∃ acc' h', (∀ K : Ex → List AV → Heap → Option (AV × Heap), loopK (fun next => runK C0 (exFn C0 E0 (N + 1)) false 32 (N + 1) B32_1 (seqE next K)) n (st 51 [(1, x), (6, acc), (7, .int .i64 ((64 * j : Nat) : Int))]) h =
      K (.exit 0) (st 51 [(1, x), (6, acc'), (7, .int .i64 ((64 * (nOf b - 1) : Nat) : Int)), (31, .bool false)]) h') ∧
      ApR S h' acc' (hd :: (List.range' 1 (nOf b - 1)).map fun j => pad (chunk b j)) ∧ Keep S h h' := by
  have hn := nOf_eq' b
  intro m
  induction m with
  | zero =>
    intro j n h acc hj hn' up hacc
    obtain ⟨n, rfl⟩ : ∃ j, n = j + 1 := ⟨n - 1, by omega⟩
    obtain rfl : j = nOf b - 1 := by omega
    refine ⟨acc, h, fun K => ?_, hacc, Keep.refl _ _⟩
    rw [loopK_succ]
    generalize loopK (_ : (List AV → Heap → Option (AV × Heap)) → List AV → Heap → Option (AV × Heap)) n = Lp
    have e : decide (((64 * (nOf b - 1) : Nat) : Int) < (b.length : Nat)) = false := decide_eq_false (by omega)
    simp -implicitDefEqProofs only [B32_1, ↓RK, RK, ↓RB, RB, decide_true, decide_false, STs, Nat.reduceBEq, ↓reduceIte, Nat.reduceLT, ↓R32, R32, hx.len, bin_lss, e]
  | succ m ih =>
    intro j n h acc hj hn' up hacc
    obtain ⟨n, rfl⟩ : ∃ j, n = j + 1 := ⟨n - 1, by omega⟩
    have e : decide (((64 * j : Nat) : Int) < (b.length : Nat)) = true := decide_eq_true (by omega)
    have w1 : IntKind.i64.wrap (((64 * j : Nat) : Int) + 64) = ((64 * (j + 1) : Nat) : Int) := by rw [wrap_i64] <;> omega
    obtain ⟨y, sy, by'⟩ := hx.sub (64 * j) (min (64 * (j + 1)) b.length) (by omega) (by omega)
    have ce := chunk_eq b (j + 1) (by omega)
    rw [show 64 * (j + 1 - 1) = 64 * j by omega] at ce
    rw [ce] at by'
    obtain ⟨h1, f1, f2⟩ := fill_ok (h := h) (U := fun _ => False) (.inl by') (chunk_length b (j + 1)) N
    have bs1 : Bs (.vsl 5 ((pad (chunk b (j + 1))).map U8) .none) (pad (chunk b (j + 1))) := .inr ⟨_, rfl⟩
    obtain ⟨acc', h2, ap, a2, k2⟩ := (hacc.fresh f2).append (up.keep f2) bs1 (by simp; omega)
    have hl2 : (hd :: (List.range' 1 j).map fun j => pad (chunk b j)) ++ [pad (chunk b (j + 1))] = hd :: (List.range' 1 (j + 1)).map fun j => pad (chunk b j) := by
      rw [List.range'_concat]; simp [Nat.add_comm]
    rw [hl2] at a2
    have k12 := (f2.up up).trans k2
    obtain ⟨acc'', h3, g1, g2, g3⟩ := ih (j + 1) n h2 acc' (by omega) (by omega) (up.keep k12) a2
    refine ⟨acc'', h3, fun K => ?_, g2, k12.trans g3⟩
    rw [loopK_succ, ← g1 K]
    generalize loopK (_ : (List AV → Heap → Option (AV × Heap)) → List AV → Heap → Option (AV × Heap)) n = Lp
    by_cases q : b.length < 64 * (j + 1)
    · rw [Nat.min_eq_right (by omega)] at sy
      have e2 : decide (((b.length : Nat) : Int) < ((64 * (j + 1) : Nat) : Int)) = true := decide_eq_true (by omega)
      simp -implicitDefEqProofs only [B32_1, ↓RK, RK, ↓RB, RB, decide_true, decide_false, STs, Nat.reduceBEq, ↓reduceIte, Nat.reduceLT, ↓R32, R32, hx.len, bin_lss, e, bin_add, w1, bin_gtr, e2, sy, f1, lit30 _ bs1.fits, app30, ap]
    · rw [Nat.min_eq_left (by omega)] at sy
      have e2 : decide (((b.length : Nat) : Int) < ((64 * (j + 1) : Nat) : Int)) = false := decide_eq_false (by omega)
      simp -implicitDefEqProofs only [B32_1, ↓RK, RK, ↓RB, RB, decide_true, decide_false, STs, Nat.reduceBEq, ↓reduceIte, Nat.reduceLT, ↓R32, R32, hx.len, bin_lss, e, bin_add, w1, bin_gtr, e2, sy, f1, lit30 _ bs1.fits, app30, ap]
theorem ofInt_nat (n : Nat) : BitVec.ofInt 32 (n : Int) = BitVec.ofNat 32 n := by simp
theorem sectors_ok {x : AV} {b : List UInt8} (hx : Bs x b) (hb : b.length < 2 ^ 40) (gen : Int) (h : Heap) (k : Nat) (hk : b.length + 60 < k) :
    ∃ y h', exFn C0 E0 (k + 1) false 32 [.int .i64 gen, x] h = some (y, h') ∧ ApR (From h.length) h' y (entryOf gen b) ∧ Keep (From h.length) h h' := by
  obtain ⟨k, rfl⟩ : ∃ j, k = j + 1 := ⟨k - 1, by omega⟩
  have up := Up.fresh h
  have n0 : ([AV.int .i64 gen, x] ++ List.replicate (51 - [AV.int .i64 gen, x].length) AV.undef) = st 51 [(0, .int .i64 gen), (1, x)] := rfl
  have q1 := four_ok gen false h k
  have q2 := four_ok (b.length : Int) false h k
  rw [ofInt_nat] at q2
  have a0 : ApB (From h.length) h (.vsl 5 ((be4 (BitVec.ofInt 32 gen)).map U8) .exact) (be4 (BitVec.ofInt 32 gen)) := .inr ⟨_, rfl, .inl rfl⟩
  have by2 : By (fun _ => False) h (.vsl 5 ((be4 (BitVec.ofNat 32 b.length)).map U8) .exact) (be4 (BitVec.ofNat 32 b.length)) := .inl (.inr ⟨_, rfl⟩)
  obtain ⟨x1, h1, p1, ax1, k1, -⟩ := a0.app up (be4 (BitVec.ofNat 32 b.length)) (by simp [be4])
  have q3 := rcrc_ok hx (by omega) false h1 k (by omega)
  have q4 := four_ok ((crc b).toNat : Int) false h1 k
  rw [show BitVec.ofInt 32 ((crc b).toNat : Int) = crc b from ofInt_toNat32 _] at q4
  have by4 : By (fun _ => False) h1 (.vsl 5 ((be4 (crc b)).map U8) .exact) (be4 (crc b)) := .inl (.inr ⟨_, rfl⟩)
  obtain ⟨x2, h2, p2, ax2, k2, -⟩ := ApB.app (l := be4 (BitVec.ofInt 32 gen) ++ be4 (BitVec.ofNat 32 b.length)) ax1 (up.keep k1) (be4 (crc b)) (by simp [be4])
  have ax2' : ApB (From h.length) h2 x2 (head12 (BitVec.ofInt 32 gen) b) := ax2
  have q5 := rcrc_ok ax2'.bs (by simp [head12, be4]) false h2 k (by simp [head12, be4]; omega)
  have q6 := four_ok ((crc (head12 (BitVec.ofInt 32 gen) b)).toNat : Int) false h2 k
  rw [show BitVec.ofInt 32 ((crc (head12 (BitVec.ofInt 32 gen) b)).toNat : Int) = crc (head12 (BitVec.ofInt 32 gen) b) from ofInt_toNat32 _] at q6
  have by6 : By (fun _ => False) h2 (.vsl 5 ((be4 (crc (head12 (BitVec.ofInt 32 gen) b))).map U8) .exact) (be4 (crc (head12 (BitVec.ofInt 32 gen) b))) := .inl (.inr ⟨_, rfl⟩)
  obtain ⟨x3, h3, p3, ax3, k3, -⟩ := ApB.app (l := head12 (BitVec.ofInt 32 gen) b) ax2' ((up.keep k1).keep k2) (be4 (crc (head12 (BitVec.ofInt 32 gen) b))) (by simp [head12, be4])
  have ax3' : ApB (From h.length) h3 x3 (head16 (BitVec.ofInt 32 gen) b) := ax3
  obtain ⟨h4, f1, f2⟩ := fill_ok (h := h3) (U := fun _ => False) (.inl ax3'.bs) (by rw [head16_length]; omega) k
  have kk := (((k1.trans k2).trans k3).fresh f2 up)
  have bs1 : Bs (.vsl 5 ((pad (head16 (BitVec.ofInt 32 gen) b)).map U8) .none) (pad (head16 (BitVec.ofInt 32 gen) b)) := .inr ⟨_, rfl⟩
  have hn := nOf_eq' b
  obtain ⟨y, h5, g1, g2, g3⟩ := sec_loop hx hb (pad (head16 (BitVec.ofInt 32 gen) b)) (S := From h.length) k (nOf b - 1) 0 (k + 1) h4 _ (by omega) (by omega) (up.keep kk) (ApR.exact bs1)
  rw [show ((64 * 0 : Nat) : Int) = 0 from rfl] at g1
  refine ⟨y, h5, exFn_of e32 ?_, g2, kk.trans g3⟩
  rw [fnK, n0, s32]
  simp -implicitDefEqProofs only [↓RK, RK, ↓RB, RB, decide_true, decide_false, STs, Nat.reduceBEq, ↓reduceIte, Nat.reduceLT, ↓R32, R32, q1, hx.len, q2, app22s by2.src, p1, q3, conv_32_64, q4, app22s by4.src, p2, q5, q6, app22s by6.src, p3, f1, lit30 _ bs1.fits]
  rw [g1]
  simp -implicitDefEqProofs only [↓RK, RK, ↓RB, RB, decide_true, decide_false, STs, Nat.reduceBEq, ↓reduceIte, Nat.reduceLT, ↓R32, R32]
end Go.Ax

set_option linter.unusedVariables false
namespace Go.Ax
open Go Go.Proofs
noncomputable def O29 (i : Nat) : Array Oper := opsOf i (bodyOf Try.f29)
noncomputable def B29_1 : Code := (.seq (.seq (.region 4 (O29 4) false) (.cond (Go.Operand.tmp 15) .skip (.exit 0))) (.seq (.block 1 (.seq (.region 6 (O29 6) true) (.cond (Go.Operand.tmp 23) (.seq (.seq (.region 7 (O29 7) false) (.seq (.region 8 (O29 8) false) (.cond (Go.Operand.tmp 28) (.seq (.region 9 (O29 9) false) .ret) .skip))) (.region 10 (O29 10) false)) .skip))) (.region 5 (O29 5) false)))
theorem s29 : bodyOf Try.f29 = (.seq (.region 0 (O29 0) false) (.seq (.seq (.region 1 (O29 1) false) (.cond (Go.Operand.tmp 10) (.region 2 (O29 2) false) .skip)) (.seq (.region 3 (O29 3) false) (.seq (.block 0 (.loop B29_1)) (.seq (.seq (.region 11 (O29 11) false) (.cond (Go.Operand.tmp 30) (.seq (.region 12 (O29 12) false) .ret) .skip)) (.seq (.region 13 (O29 13) false) .ret)))))) := by kernel_rfl
theorem e29 : E0 29 = some ⟨33, [6], bodyOf Try.f29⟩ := by kernel_rfl
theorem r29_0 (x0 x1 x2 : AV) : RR O29 29 33 0 false [(0, x0), (1, x1), (2, x2)] fun _ call md k h =>
 k .normal (st 33 [(0, x0), (1, x1), (2, x2)]) h
 := fun _ _ _ _ _ _ => by kernel_rfl
theorem r29_1 (x0 x1 x2 : AV) : RR O29 29 33 1 false [(0, x0), (1, x1), (2, x2)] fun _ call md k h =>
 bnd (aBinC tab .lss 3 x1 (.int .i64 0) true) fun v1 =>
 k .normal (st 33 [(0, x0), (1, x1), (2, x2), (10, v1)]) h
 := fun _ _ _ _ _ _ => by kernel_rfl
theorem r29_2 (x0 x1 x2 x10 : AV) : RR O29 29 33 2 false [(0, x0), (1, x1), (2, x2), (10, x10)] fun _ call md k h =>
 k .normal (st 33 [(0, x0), (1, (.int .i64 0)), (2, x2)]) h
 := fun _ _ _ _ _ _ => by kernel_rfl
theorem r29_3a (x0 x1 x2 x10 : AV) : RR O29 29 33 3 false [(0, x0), (1, x1), (2, x2), (10, x10)] fun _ call md k h =>
 k .normal (st 33 [(0, x0), (1, x1), (2, x2), (7, (.bool false))]) h
 := fun _ _ _ _ _ _ => by kernel_rfl
theorem r29_3b (x0 x1 x2 : AV) : RR O29 29 33 3 false [(0, x0), (1, x1), (2, x2)] fun _ call md k h =>
 k .normal (st 33 [(0, x0), (1, x1), (2, x2), (7, (.bool false))]) h
 := fun _ _ _ _ _ _ => by kernel_rfl
theorem r29_4 (x0 x1 x2 x7 : AV) : RR O29 29 33 4 false [(0, x0), (1, x1), (2, x2), (7, x7)] fun _ call md k h =>
 bnd2 (call md 56 [x0, x2] h) fun v1 h2 =>
 bnd (aBinC tab .lss 3 x1 v1 false) fun v3 =>
 k .normal (st 33 [(0, x0), (1, x1), (2, x2), (7, x7), (15, v3)]) h2
 := fun _ _ _ _ _ _ => by kernel_rfl
theorem r29_5a (x0 x1 x2 x7 x23 : AV) : RR O29 29 33 5 false [(0, x0), (1, x1), (2, x2), (7, x7), (23, x23)] fun _ call md k h =>
 bnd (aBinC tab .add 3 x1 (.int .i64 1) true) fun v1 =>
 k .normal (st 33 [(0, x0), (1, v1), (2, x2), (7, x7)]) h
 := fun _ _ _ _ _ _ => by kernel_rfl
theorem r29_5b (x0 x1 x2 x7 : AV) : RR O29 29 33 5 false [(0, x0), (1, x1), (2, x2), (7, x7)] fun _ call md k h =>
 bnd (aBinC tab .add 3 x1 (.int .i64 1) true) fun v1 =>
 k .normal (st 33 [(0, x0), (1, v1), (2, x2), (7, x7)]) h
 := fun _ _ _ _ _ _ => by kernel_rfl
theorem r29_6 (x0 x1 x2 x7 x15 : AV) : RR O29 29 33 6 true [(0, x0), (1, x1), (2, x2), (7, x7), (15, x15)] fun _ call md k h =>
 bnd2 (call md 57 [x0, x1] h) fun v1 h2 =>
 bnd (aZeroSl tab 22 (.int .i64 64) (.int .i64 64)) fun v3 =>
 bnd2 (call md 22 [v1, v3] h2) fun v4 h5 =>
 bnd (aUn .not v4) fun v6 =>
 k .normal (st 33 [(0, x0), (1, x1), (2, x2), (7, x7), (23, v6)]) h5
 := RRd (by kernel_rfl) (by kernel_rfl) (fun _ _ _ _ _ => by kernel_rfl)
theorem r29_7 (x0 x1 x2 x7 x23 : AV) : RR O29 29 33 7 false [(0, x0), (1, x1), (2, x2), (7, x7), (23, x23)] fun _ call md k h =>
 bnd2 (call md 54 [x0, x1, .nils] h) fun v1 h2 =>
 k .normal (st 33 [(0, x0), (1, x1), (2, x2), (8, v1)]) h2
 := fun _ _ _ _ _ _ => by kernel_rfl
theorem r29_8 (x0 x1 x2 x8 : AV) : RR O29 29 33 8 false [(0, x0), (1, x1), (2, x2), (8, x8)] fun _ call md k h =>
 bnd (aBinC tab .neq 27 x8 (.int .i64 0) true) fun v1 =>
 k .normal (st 33 [(0, x0), (1, x1), (2, x2), (8, x8), (28, v1)]) h
 := fun _ _ _ _ _ _ => by kernel_rfl
theorem r29_9 (x0 x1 x2 x8 x28 : AV) : RR O29 29 33 9 false [(0, x0), (1, x1), (2, x2), (8, x8), (28, x28)] fun _ call md k h =>
 k .normal (st 33 [(6, x8)]) h
 := fun _ _ _ _ _ _ => by kernel_rfl
theorem r29_10 (x0 x1 x2 x8 x28 : AV) : RR O29 29 33 10 false [(0, x0), (1, x1), (2, x2), (8, x8), (28, x28)] fun _ call md k h =>
 k .normal (st 33 [(0, x0), (1, x1), (2, x2), (7, (.bool true))]) h
 := fun _ _ _ _ _ _ => by kernel_rfl
theorem r29_11 (x0 x1 x2 x7 x15 : AV) : RR O29 29 33 11 false [(0, x0), (1, x1), (2, x2), (7, x7), (15, x15)] fun _ call md k h =>
 k .normal (st 33 [(0, x0), (30, x7)]) h
 := fun _ _ _ _ _ _ => by kernel_rfl
theorem r29_12 (x0 x30 : AV) : RR O29 29 33 12 false [(0, x0), (30, x30)] fun _ call md k h =>
 bnd2 (call md 55 [x0] h) fun v1 h2 =>
 k .normal (st 33 [(6, v1)]) h2
 := fun _ _ _ _ _ _ => by kernel_rfl
theorem r29_13 (x0 x30 : AV) : RR O29 29 33 13 false [(0, x0), (30, x30)] fun _ call md k h =>
 k .normal (st 33 [(6, (.int .i64 0))]) h
 := fun _ _ _ _ _ _ => by kernel_rfl
def R29 := And.intro @r29_0 <| And.intro @r29_1 <| And.intro @r29_2 <| And.intro @r29_3a <| And.intro @r29_3b <| And.intro @r29_4 <| And.intro @r29_5a <| And.intro @r29_5b <| And.intro @r29_6 <| And.intro @r29_7 <| And.intro @r29_8 <| And.intro @r29_9 <| And.intro @r29_10 <| And.intro @r29_11 <| And.intro @r29_12 <| @r29_13
end Go.Ax

namespace Go.Ax
open Go Go.Proofs
theorem rwrite_fuse (d : Dk) (a : Int) (b : List UInt8) : (d.rwrite a b).2.fuse ≤ d.fuse := by
  unfold Dk.rwrite
  split
  · exact Int.le_refl _
  · split
    · exact Int.le_refl _
    · simp only [Dk.add, Dk.rburn]; split <;> omega
theorem rwrite_loose (d : Dk) (a : Int) (b : List UInt8) : (d.rwrite a b).2.loose.length ≤ d.loose.length + 1 := by
  unfold Dk.rwrite
  split
  · simp
  · split
    · simp [Dk.rdown]
    · simp [Dk.rburn, Dk.add]
theorem rwrite_len (d : Dk) (a : Int) (b : List UInt8) : (d.rwrite a b).2.lasts.length = d.lasts.length := by
  unfold Dk.rwrite
  split
  · rfl
  · split <;> rfl
theorem blank_iff {l : List UInt8} (h : l.length = 64) : (l = List.replicate 64 0) ↔ l.all (· == 0) = true := by
  constructor
  · rintro rfl; simp
  · intro ha
    rw [← h]
    refine List.eq_replicate_iff.2 ⟨rfl, fun b hb => ?_⟩
    have := List.all_eq_true.1 ha b hb
    simpa using this
def rcleanLoop : Nat → Nat → Bool → Dk → Int × Bool × Dk
  | 0, _, s, d => (0, s, d)
  | m + 1, i, s, d =>
    if ((d.now[i]?).getD []).all (· == 0) then rcleanLoop m (i + 1) s d
    else if (d.rwrite i []).1 = 0 then rcleanLoop m (i + 1) true (d.rwrite i []).2
    else ((d.rwrite i []).1, s, (d.rwrite i []).2)
theorem rcleanLoop_zero (i : Nat) (s : Bool) (d : Dk) : rcleanLoop 0 i s d = (0, s, d) := rfl
theorem rcleanLoop_blank {m i : Nat} {s : Bool} {d : Dk} (h : ((d.now[i]?).getD []).all (· == 0) = true) : rcleanLoop (m + 1) i s d = rcleanLoop m (i + 1) s d := if_pos h
theorem rcleanLoop_go {m i : Nat} {s : Bool} {d : Dk} (h : ((d.now[i]?).getD []).all (· == 0) = false) (h2 : (d.rwrite i []).1 = 0) : rcleanLoop (m + 1) i s d = rcleanLoop m (i + 1) true (d.rwrite i []).2 := by
  rw [rcleanLoop, if_neg (by simp [h]), if_pos h2]
theorem rcleanLoop_no {m i : Nat} {s : Bool} {d : Dk} (h : ((d.now[i]?).getD []).all (· == 0) = false) (h2 : (d.rwrite i []).1 ≠ 0) : rcleanLoop (m + 1) i s d = ((d.rwrite i []).1, s, (d.rwrite i []).2) := by
  rw [rcleanLoop, if_neg (by simp [h]), if_neg h2]
theorem rcleanLoop_loose : ∀ (m i : Nat) (s : Bool) (d : Dk), (rcleanLoop m i s d).2.2.loose.length ≤ d.loose.length + m ∧ (rcleanLoop m i s d).2.2.fuse ≤ d.fuse ∧ (rcleanLoop m i s d).2.2.lasts.length = d.lasts.length := by
  intro m
  induction m with
  | zero => intro i s d; simp [rcleanLoop]
  | succ m ih =>
    intro i s d
    cases hz : ((d.now[i]?).getD []).all (· == 0)
    · by_cases hw : (d.rwrite i []).1 = 0
      · rw [rcleanLoop_go hz hw]
        have := ih (i + 1) true (d.rwrite i []).2
        have h1 := rwrite_loose d i []
        have h2 := rwrite_fuse d i []
        have h3 := rwrite_len d i []
        omega
      · rw [rcleanLoop_no hz hw]
        have h1 := rwrite_loose d i []
        have h2 := rwrite_fuse d i []
        have h3 := rwrite_len d i []
        simp only
        omega
    · rw [rcleanLoop_blank hz]
      have := ih (i + 1) s d
      omega
theorem Rsk.now_length {S : Obs} {h : Heap} {p r : Nat} {d : Dk} (_ : Rsk S h p r d) : d.now.length = d.lasts.length := land_length _ _
theorem Rsk.now_cells {S : Obs} {h : Heap} {p r : Nat} {d : Dk} (D : Rsk S h p r d) : ∀ b ∈ d.now, b.length = 64 := land_cells _ _ D.cells fun w hw => (D.loose w hw).2
theorem rclean_loop {S : Obs} {p r : Nat} (e : Int) (N : Nat) (hN2 : 80 < N) :
    ∀ (m i n : Nat) (s : Bool) (d : Dk) (h : Heap), m = (min e d.lasts.length - i).toNat → m < n → Up S h → Rsk S h p r d → d.loose.length + m < 2 ^ 29 → d.loose.length + m + 10 < N → d.fuse < 2 ^ 63 →
    ∃ h' j, (∀ K : Ex → List AV → Heap → Option (AV × Heap), loopK (fun next => runK C0 (exFn C0 E0 (N + 3)) false 29 (N + 3) B29_1 (seqE next K)) n (st 33 [(0, rp p), (1, .int .i64 i), (2, .int .i64 e), (7, .bool s)]) h =
      if (rcleanLoop m i s d).1 = 0 then K (.exit 0) (st 33 [(0, rp p), (1, j), (2, .int .i64 e), (7, .bool (rcleanLoop m i s d).2.1), (15, .bool false)]) h'
      else K .ret (st 33 [(6, .int .i64 (rcleanLoop m i s d).1)]) h') ∧
      Rsk S h' p r (rcleanLoop m i s d).2.2 ∧ Keep S h h' := by
  intro m
  induction m with
  | zero =>
    intro i n s d h hm hn up D hl hN hf
    obtain ⟨n, rfl⟩ : ∃ j, n = j + 1 := ⟨n - 1, by omega⟩
    rw [rcleanLoop_zero]
    refine ⟨h, .int .i64 i, fun K => ?_, D, Keep.refl _ _⟩
    rw [if_pos rfl, loopK_succ]
    generalize loopK (_ : (List AV → Heap → Option (AV × Heap)) → List AV → Heap → Option (AV × Heap)) n = Lp
    have lk := rend_ok D e false (N + 2)
    have e1 : decide ((i : Int) < min e d.lasts.length) = false := decide_eq_false (by omega)
    simp -implicitDefEqProofs only [B29_1, ↓RK, RK, ↓RB, RB, decide_true, decide_false, STs, Nat.reduceBEq, ↓reduceIte, Nat.reduceLT, ↓R29, R29, lk, bin_lss, e1]
  | succ m ih =>
    intro i n s d h hm hn up D hl hN hf
    obtain ⟨n, rfl⟩ : ∃ j, n = j + 1 := ⟨n - 1, by omega⟩
    have hfew := D.few
    have lk := rend_ok D e false (N + 2)
    have e1 : decide ((i : Int) < min e d.lasts.length) = true := decide_eq_true (by omega)
    have hlt : i < d.now.length := by rw [D.now_length]; omega
    have wr : IntKind.i64.wrap ((i : Int) + 1) = ((i + 1 : Nat) : Int) := by rw [wrap_i64] <;> omega
    obtain ⟨y, r1, r2⟩ := rread_ok D (by omega) (i : Int) false (N + 2) (by omega)
    have hrd : d.rread (i : Int) = (d.now[i]?).getD [] := by
      unfold Dk.rread
      rw [if_pos ⟨by omega, by rw [D.now_length] at hlt; omega⟩, Int.toNat_natCast]
    rw [hrd] at r2
    have hc : ((d.now[i]?).getD []).length = 64 := by rw [List.getElem?_eq_getElem hlt]; exact D.now_cells _ (List.getElem_mem hlt)
    have zs : Bs (.vsl 5 ((List.replicate 64 (0 : UInt8)).map U8) .none) (List.replicate 64 0) := .inr ⟨_, rfl⟩
    have sm := same_ok r2 zs (by omega) false h (N + 3) (by omega)
    have hbi := blank_iff hc
    cases hz : ((d.now[i]?).getD []).all (· == 0)
    · rw [decide_eq_false (fun e => by rw [hbi.1 e] at hz; cases hz)] at sm
      obtain ⟨h2, w1, D2, k2⟩ := rwrite_ok D up (i : Int) (x := .nils) (b := []) (U := fun _ => False) (.inl (.inl ⟨rfl, rfl⟩)) (fun _ _ h => h.elim) (by omega) hf N
      have a1 := rwrite_loose d i []
      have a2 := rwrite_fuse d i []
      have a3 := rwrite_len d i []
      by_cases hw : (d.rwrite i []).1 = 0
      · rw [rcleanLoop_go hz hw]
        obtain ⟨h3, j, g1, g2, g3⟩ := ih (i + 1) n true _ h2 (by omega) (by omega) (up.keep k2) D2 (by omega) (by omega) (by omega)
        refine ⟨h3, j, fun K => ?_, g2, k2.trans g3⟩
        rw [loopK_succ, ← g1 K]
        generalize loopK (_ : (List AV → Heap → Option (AV × Heap)) → List AV → Heap → Option (AV × Heap)) n = Lp
        rw [hw] at w1
        have c0 : decide ((0 : Int) ≠ 0) = false := by decide
        simp -implicitDefEqProofs only [B29_1, ↓RK, RK, ↓RB, RB, decide_true, decide_false, STs, Nat.reduceBEq, ↓reduceIte, Nat.reduceLT, ↓R29, R29, lk, bin_lss, e1, r1, zerosl, sm, un_not, Bool.not_false, w1, neq27, c0, bin_add, wr]
      · rw [rcleanLoop_no hz hw]
        refine ⟨h2, .undef, fun K => ?_, D2, k2⟩
        rw [if_neg hw, loopK_succ]
        generalize loopK (_ : (List AV → Heap → Option (AV × Heap)) → List AV → Heap → Option (AV × Heap)) n = Lp
        have c0 : decide ((d.rwrite (i : Int) []).1 ≠ 0) = true := decide_eq_true hw
        simp -implicitDefEqProofs only [B29_1, ↓RK, RK, ↓RB, RB, decide_true, decide_false, STs, Nat.reduceBEq, ↓reduceIte, Nat.reduceLT, ↓R29, R29, lk, bin_lss, e1, r1, zerosl, sm, un_not, Bool.not_false, w1, neq27, c0]
    · rw [decide_eq_true (hbi.2 hz)] at sm
      rw [rcleanLoop_blank hz]
      obtain ⟨h3, j, g1, g2, g3⟩ := ih (i + 1) n s d h (by omega) (by omega) up D (by omega) (by omega) hf
      refine ⟨h3, j, fun K => ?_, g2, g3⟩
      rw [loopK_succ, ← g1 K]
      generalize loopK (_ : (List AV → Heap → Option (AV × Heap)) → List AV → Heap → Option (AV × Heap)) n = Lp
      simp -implicitDefEqProofs only [B29_1, ↓RK, RK, ↓RB, RB, decide_true, decide_false, STs, Nat.reduceBEq, ↓reduceIte, Nat.reduceLT, ↓R29, R29, lk, bin_lss, e1, r1, zerosl, sm, un_not, Bool.not_true, bin_add, wr]
def Dk.rclean (d : Dk) (a e : Int) : Int × Dk :=
  let r := rcleanLoop (min e d.lasts.length - max a 0).toNat (max a 0).toNat false d
  if r.1 ≠ 0 then (r.1, r.2.2) else if r.2.1 then r.2.2.rflush else (0, r.2.2)
theorem rclean_ok {S : Obs} {p r : Nat} {h : Heap} {d : Dk} (D : Rsk S h p r d) (up : Up S h) (hl : d.loose.length < 2 ^ 28) (hf : d.fuse < 2 ^ 63) (a e : Int) (k : Nat) (hk : d.loose.length + 9000 < k) :
    ∃ h', exFn C0 E0 (k + 1) false 29 [rp p, .int .i64 a, .int .i64 e] h = some (.int .i64 (d.rclean a e).1, h') ∧ Rsk S h' p r (d.rclean a e).2 ∧ Keep S h h' := by
  obtain ⟨k, rfl⟩ : ∃ j, k = j + 3 := ⟨k - 3, by omega⟩
  have hfew := D.few
  have n0 : ([rp p, .int .i64 a, .int .i64 e] ++ List.replicate (33 - [rp p, AV.int .i64 a, .int .i64 e].length) AV.undef) = st 33 [(0, rp p), (1, .int .i64 a), (2, .int .i64 e)] := rfl
  have hcl := rcleanLoop_loose (min e d.lasts.length - max a 0).toNat (max a 0).toNat false d
  obtain ⟨h1, j, f1, f2, f3⟩ := rclean_loop (S := S) (p := p) (r := r) e k (by omega) (min e d.lasts.length - max a 0).toNat (max a 0).toNat (k + 3) false d h (by omega) (by omega) up D (by omega) (by omega) hf
  unfold Dk.rclean
  generalize hL : rcleanLoop (min e d.lasts.length - max a 0).toNat (max a 0).toNat false d = L at *
  obtain ⟨le, ls, ld⟩ := L
  simp only at f1 f2 hcl ⊢
  -- the clamp
  have run : ∀ r : AV × Heap, (∀ K : Ex → List AV → Heap → Option (AV × Heap), True) →
      loopK (fun next => runK C0 (exFn C0 E0 (k + 3)) false 29 (k + 3) B29_1 (seqE next (blkE 0 (seqE (runK C0 (exFn C0 E0 (k + 3)) false 29 (k + 3) (.seq (.seq (.region 11 (O29 11) false) (.cond (.tmp 30) (.seq (.region 12 (O29 12) false) .ret) .skip)) (.seq (.region 13 (O29 13) false) .ret)) (retK [6])) (retK [6]))))) (k + 3)
        (st 33 [(0, rp p), (1, .int .i64 ((max a 0).toNat : Nat)), (2, .int .i64 e), (7, .bool false)]) h = some r → exFn C0 E0 (k + 3 + 1) false 29 [rp p, .int .i64 a, .int .i64 e] h = some r := by
    intro r _ hr
    refine exFn_of e29 ?_
    rw [fnK, n0, s29]
    by_cases q : a < 0
    · rw [show (((max a 0).toNat : Nat) : Int) = 0 by omega] at hr
      simp -implicitDefEqProofs only [↓RK, RK, ↓RB, RB, decide_true, decide_false, STs, Nat.reduceBEq, ↓reduceIte, Nat.reduceLT, ↓R29, R29, bin_lss, decide_eq_true q]
      exact hr
    · rw [show (((max a 0).toNat : Nat) : Int) = a by omega] at hr
      simp -implicitDefEqProofs only [↓RK, RK, ↓RB, RB, decide_true, decide_false, STs, Nat.reduceBEq, ↓reduceIte, Nat.reduceLT, ↓R29, R29, bin_lss, decide_eq_false q]
      exact hr
  by_cases z1 : le = 0
  · subst z1
    rw [if_neg (fun h => h rfl)]
    simp only [if_true] at f1
    cases ls
    · rw [if_neg Bool.false_ne_true]
      refine ⟨h1, run _ (fun _ => trivial) ?_, f2, f3⟩
      rw [f1]
      simp -implicitDefEqProofs only [↓RK, RK, ↓RB, RB, decide_true, decide_false, STs, Nat.reduceBEq, ↓reduceIte, Nat.reduceLT, ↓R29, R29]
    · rw [if_pos rfl]
      obtain ⟨h2, g1, g2, g3⟩ := rflush_ok f2 (by omega) (by omega) false (k + 2) (by omega)
      refine ⟨h2, run _ (fun _ => trivial) ?_, g2, f3.trans g3⟩
      rw [f1]
      simp -implicitDefEqProofs only [↓RK, RK, ↓RB, RB, decide_true, decide_false, STs, Nat.reduceBEq, ↓reduceIte, Nat.reduceLT, ↓R29, R29, g1]
  · rw [if_pos z1]
    refine ⟨h1, run _ (fun _ => trivial) ?_, f2, f3⟩
    rw [f1, if_neg z1]
    simp -implicitDefEqProofs only [↓RK, RK, ↓RB, RB, decide_true, decide_false, STs, Nat.reduceBEq, ↓reduceIte, Nat.reduceLT]
end Go.Ax

namespace Go.Ax
open Go Go.Proofs
structure DkEq (d v : Dk) : Prop where
  lasts : d.lasts = v.lasts
  loose : d.loose = v.loose
  down : d.down = v.down
  fuse : d.down = false → d.fuse = v.fuse
theorem DkEq.now {d v : Dk} (e : DkEq d v) : d.now = v.now := by unfold Dk.now; rw [e.lasts, e.loose]
theorem DkEq.has {d v : Dk} (e : DkEq d v) (i : Int) : d.has i ↔ v.has i := by unfold Dk.has; rw [e.lasts]
theorem DkEq.off {d v : Dk} (e : DkEq d v) : d.burn.down = true ↔ v.off := by
  unfold Dk.off
  simp only [Dk.burn, Bool.or_eq_true, decide_eq_true_eq]
  rw [← e.down]
  cases h : d.down
  · rw [← e.fuse h]
  · simp
theorem DkEq.write {d v : Dk} (e : DkEq d v) (a : Int) (b : List UInt8) : (d.write a b).1 = (v.rwrite a b).1 ∧ DkEq (d.write a b).2 (v.rwrite a b).2 := by
  unfold Dk.write Dk.rwrite
  by_cases h1 : ¬ d.has a ∨ 64 < b.length
  · have h1' : ¬ v.has a ∨ 64 < b.length := by rw [← e.has]; exact h1
    rw [if_pos h1, if_pos h1']
    exact ⟨rfl, e⟩
  · have h1' : ¬ (¬ v.has a ∨ 64 < b.length) := by rw [← e.has]; exact h1
    rw [if_neg h1, if_neg h1']
    by_cases h2 : d.burn.down = true
    · rw [if_pos h2, if_pos (e.off.1 h2)]
      exact ⟨rfl, e.lasts, e.loose, by rw [h2]; rfl, fun h => by rw [h2] at h; cases h⟩
    · rw [if_neg h2, if_neg (fun h => h2 (e.off.2 h))]
      have hd : d.down = false := by
        simp only [Dk.burn, Bool.or_eq_true, decide_eq_true_eq, not_or] at h2
        simpa using h2.1
      have hf := e.fuse hd
      refine ⟨rfl, e.lasts, ?_, ?_, fun _ => ?_⟩
      · simp only [Dk.add, Dk.burn, Dk.rburn]; rw [e.loose]
      · simp only [Dk.add, Dk.rburn]; rw [← e.down, hd]; simpa using h2
      · simp only [Dk.add, Dk.burn, Dk.rburn]; rw [hf]
theorem DkEq.flush {d v : Dk} (e : DkEq d v) : d.flush.1 = v.rflush.1 ∧ DkEq d.flush.2 v.rflush.2 := by
  unfold Dk.flush Dk.rflush
  by_cases h2 : d.burn.down = true
  · rw [if_pos h2, if_pos (e.off.1 h2)]
    exact ⟨rfl, e.lasts, e.loose, by rw [h2]; rfl, fun h => by rw [h2] at h; cases h⟩
  · rw [if_neg h2, if_neg (fun h => h2 (e.off.2 h))]
    have hd : d.down = false := by
      simp only [Dk.burn, Bool.or_eq_true, decide_eq_true_eq, not_or] at h2
      simpa using h2.1
    have hf := e.fuse hd
    refine ⟨rfl, e.now, rfl, ?_, fun _ => ?_⟩
    · simp only; rw [← e.down, hd]; simpa using h2
    · simp only [Dk.burn, Dk.rburn]; rw [hf]
theorem DkEq.crash {d v : Dk} (e : DkEq d v) (K : Nat) (torn at' : Int) : DkEq (d.crash K torn at') (v.crash K torn at') := by
  unfold Dk.crash; rw [e.lasts, e.loose]; exact ⟨rfl, rfl, rfl, fun _ => rfl⟩
theorem DkEq.setFuse {d v : Dk} (e : DkEq d v) (n : Int) : DkEq (d.setFuse n) (v.setFuse n) := ⟨e.lasts, e.loose, e.down, fun _ => rfl⟩
theorem DkEq.refl (d : Dk) : DkEq d d := ⟨rfl, rfl, rfl, fun _ => rfl⟩
theorem DkEq.scan {d v : Dk} (e : DkEq d v) (a en gen : Int) : d.scan a en gen = v.scan a en gen := by unfold Dk.scan; rw [e.now, e.lasts]
theorem DkEq.cleanLoop : ∀ (m i : Nat) (s : Bool) {d v : Dk}, DkEq d v → (cleanLoop m i s d).1 = (rcleanLoop m i s v).1 ∧ (cleanLoop m i s d).2.1 = (rcleanLoop m i s v).2.1 ∧ DkEq (cleanLoop m i s d).2.2 (rcleanLoop m i s v).2.2 := by
  intro m
  induction m with
  | zero => intro i s d v e; exact ⟨rfl, rfl, e⟩
  | succ m ih =>
    intro i s d v e
    have hn : ((d.now[i]?).getD []) = ((v.now[i]?).getD []) := by rw [e.now]
    obtain ⟨w1, w2⟩ := e.write i []
    cases hz : ((d.now[i]?).getD []).all (· == 0)
    · have hz' : ((v.now[i]?).getD []).all (· == 0) = false := by rw [← hn]; exact hz
      by_cases hw : (d.write i []).1 = 0
      · rw [cleanLoop_go hz hw, rcleanLoop_go hz' (by rw [← w1]; exact hw)]
        exact ih (i + 1) true w2
      · rw [cleanLoop_no hz hw, rcleanLoop_no hz' (by rw [← w1]; exact hw)]
        exact ⟨w1, rfl, w2⟩
    · have hz' : ((v.now[i]?).getD []).all (· == 0) = true := by rw [← hn]; exact hz
      rw [cleanLoop_blank hz, rcleanLoop_blank hz']
      exact ih (i + 1) s e
theorem DkEq.clean {d v : Dk} (e : DkEq d v) (a en : Int) : (d.clean a en).1 = (v.rclean a en).1 ∧ DkEq (d.clean a en).2 (v.rclean a en).2 := by
  have h := DkEq.cleanLoop (min en d.lasts.length - max a 0).toNat (max a 0).toNat false e
  unfold Dk.clean Dk.rclean
  rw [← e.lasts]
  generalize Go.Ax.cleanLoop (min en d.lasts.length - max a 0).toNat (max a 0).toNat false d = L at *
  generalize rcleanLoop (min en d.lasts.length - max a 0).toNat (max a 0).toNat false v = R at *
  obtain ⟨l1, l2, l3⟩ := L
  obtain ⟨r1, r2, r3⟩ := R
  simp only at h ⊢
  obtain ⟨rfl, rfl, h3⟩ := h
  by_cases z : l1 = 0
  · subst z
    simp only [ne_eq, not_true_eq_false, if_false]
    cases l2
    · exact ⟨rfl, h3⟩
    · simp only [if_true]; exact h3.flush
  · rw [if_pos z, if_pos z]
    exact ⟨rfl, h3⟩
end Go.Ax

namespace Go.Ax
open Go Go.Proofs
theorem Dsk.cap {S : Obs} {h : Heap} {p r : Nat} {d : Dk} (D : Dsk S h p r d) : Dsk (fun i => S i ∧ i < h.length) h p r d := by
  obtain ⟨x, hx, ha⟩ := D.var
  refine ⟨⟨D.hp, (List.getElem?_eq_some_iff.1 hx).1⟩, fun e => ⟨D.hr e, (List.getElem?_eq_some_iff.1 (D.row e)).1⟩, ⟨x, hx, ?_⟩, D.row, D.cells, D.loose, D.few⟩
  rcases ha with a | ⟨kk, hx, a | ⟨r, g, hk, hr, hg⟩⟩
  · exact .inl a
  · exact .inr ⟨kk, hx, .inl a⟩
  · exact .inr ⟨kk, hx, .inr ⟨r, g, hk, ⟨hr, (List.getElem?_eq_some_iff.1 hg).1⟩, hg⟩⟩
theorem Rsk.cap {S : Obs} {h : Heap} {p r : Nat} {d : Dk} (D : Rsk S h p r d) : Rsk (fun i => S i ∧ i < h.length) h p r d := by
  obtain ⟨x, vs, hx, ha, hv⟩ := D.var
  refine ⟨⟨D.hp, (List.getElem?_eq_some_iff.1 hx).1⟩, fun e => ⟨D.hr e, by obtain ⟨us, hu, -⟩ := D.row e; exact (List.getElem?_eq_some_iff.1 hu).1⟩, ⟨x, vs, hx, ?_, hv⟩, D.row, D.cells, D.loose, D.few⟩
  rcases ha with a | ⟨kk, hx, a | ⟨r, g, hk, hr, hg⟩⟩
  · exact .inl a
  · exact .inr ⟨kk, hx, .inl a⟩
  · exact .inr ⟨kk, hx, .inr ⟨r, g, hk, ⟨hr, (List.getElem?_eq_some_iff.1 hg).1⟩, hg⟩⟩
def Two (b : Nat) (F : Obs) (h : Heap) (p r p' r' : Nat) (d v : Dk) : Prop :=
  b ≤ h.length ∧ (∀ i, F i → i < h.length) ∧ ∃ S1 S2 : Obs, Dsk S1 h p r d ∧ Rsk S2 h p' r' v ∧ (∀ i, S1 i → ¬ S2 i) ∧ (∀ i, S1 i → b ≤ i ∧ i < h.length ∧ ¬ F i) ∧ (∀ i, S2 i → b ≤ i ∧ i < h.length ∧ ¬ F i)
def Zone (b : Nat) (F : Obs) (_ : Heap) : Obs := fun i => b ≤ i ∧ ¬ F i
theorem Two.alloc {b : Nat} {F : Obs} {h h' : Heap} {p r p' r' : Nat} {d v : Dk} (T : Two b F h p r p' r' d v) (k : Keep (From h.length) h h') : Two b (fun i => F i ∨ (h.length ≤ i ∧ i < h'.length)) h' p r p' r' d v := by
  obtain ⟨hb, hF, S1, S2, D, R, dis, b1, b2⟩ := T
  have hk := k.1
  refine ⟨by omega, fun i hi => ?_, S1, S2, D.fresh k, R.fresh k, dis, fun i hi => ?_, fun i hi => ?_⟩
  · rcases hi with hi | hi
    · have := hF i hi; omega
    · exact hi.2
  · have := b1 i hi; exact ⟨this.1, by omega, fun hf => by rcases hf with hf | hf; exact this.2.2 hf; omega⟩
  · have := b2 i hi; exact ⟨this.1, by omega, fun hf => by rcases hf with hf | hf; exact this.2.2 hf; omega⟩
theorem Two.other {b : Nat} {F U : Obs} {h h' : Heap} {p r p' r' : Nat} {d v : Dk} (T : Two b F h p r p' r' d v) (k : Keep U h h') (hU : ∀ i, U i → F i) : Two b F h' p r p' r' d v := by
  obtain ⟨hb, hF, S1, S2, D, R, dis, b1, b2⟩ := T
  have hk := k.1
  exact ⟨by omega, fun i hi => by have := hF i hi; omega, S1, S2, D.keep k fun i _ h1 h2 => (b1 i h1).2.2 (hU i h2), R.keep k fun i _ h1 h2 => (b2 i h1).2.2 (hU i h2), dis,
    fun i hi => ⟨(b1 i hi).1, by have := (b1 i hi).2.1; omega, (b1 i hi).2.2⟩, fun i hi => ⟨(b2 i hi).1, by have := (b2 i hi).2.1; omega, (b2 i hi).2.2⟩⟩
theorem Two.forget {b : Nat} {F G : Obs} {h : Heap} {p r p' r' : Nat} {d v : Dk} (T : Two b F h p r p' r' d v) (hG : ∀ i, G i → F i) : Two b G h p r p' r' d v := by
  obtain ⟨hb, hF, S1, S2, D, R, dis, b1, b2⟩ := T
  exact ⟨hb, fun i hi => hF i (hG i hi), S1, S2, D, R, dis, fun i hi => ⟨(b1 i hi).1, (b1 i hi).2.1, fun h => (b1 i hi).2.2 (hG i h)⟩, fun i hi => ⟨(b2 i hi).1, (b2 i hi).2.1, fun h => (b2 i hi).2.2 (hG i h)⟩⟩
theorem Two.dsk {b : Nat} {F : Obs} {h : Heap} {p r p' r' : Nat} {d v : Dk} (T : Two b F h p r p' r' d v) : ∃ S, Dsk S h p r d := by
  obtain ⟨-, -, S1, S2, D, -⟩ := T; exact ⟨S1, D⟩
theorem Zone.sub {b : Nat} {F : Obs} {h : Heap} : ∀ i, Zone b F h i → From b i := fun _ hi => hi.1
end Go.Ax

namespace Go.Ax
open Go Go.Proofs
structure Ac where
  what : Int
  at' : Int
  n : Int
  b : List UInt8
  keep : Nat
inductive AcsL : List AV → List Ac → Prop
  | nil : AcsL [] []
  | cons {x a vs cs} : Bs x a.b → a.keep < 2 ^ 64 → a.n < 2 ^ 63 → AcsL vs cs → AcsL (.agg 95 [.int .i64 a.what, .int .i64 a.at', .int .i64 a.n, x, .int .u64 a.keep] :: vs) (a :: cs)
theorem AcsL.length : ∀ {l : List AV} {m : List Ac}, AcsL l m → l.length = m.length
  | _, _, .nil => rfl
  | _, _, .cons _ _ _ t => by simp [AcsL.length t]
theorem AcsL.get : ∀ {vs : List AV} {cs : List Ac}, AcsL vs cs → ∀ {i : Nat} {a : Ac}, cs[i]? = some a → ∃ x, vs[i]? = some (.agg 95 [.int .i64 a.what, .int .i64 a.at', .int .i64 a.n, x, .int .u64 a.keep]) ∧ Bs x a.b ∧ a.keep < 2 ^ 64 ∧ a.n < 2 ^ 63
  | _, _, .nil, i, l, h => by simp at h
  | _, _, .cons a b c t, 0, l, h => by simp at h; subst h; exact ⟨_, rfl, a, b, c⟩
  | _, _, .cons a b c t, i + 1, l, h => by simpa using t.get (i := i) (by simpa using h)
section
variable {h : Heap} {q : Nat} {a b c d e : AV} (hq : h[q]? = some (.var 96 (.agg 95 [a, b, c, d, e])))
include hq
end
end Go.Ax

namespace Go.Ax
open Go Go.Proofs
theorem rfuse_ok {S : Obs} {p r : Nat} {h : Heap} {v : Dk} (R : Rsk S h p r v) (n : Int) :
    ∃ h1, aStore tab 3 (.ref p [2] 3) (.int .i64 n) h = some h1 ∧ Keep S h h1 ∧ (¬ n < 0 → Rsk S h1 p r (v.setFuse n)) ∧
      (n < 0 → ∃ h2, aStore tab 3 (.ref p [2] 3) (.int .i64 0) h1 = some h2 ∧ Keep S h h2 ∧ Rsk S h2 p r (v.setFuse n)) := by
  obtain ⟨y, vs, hy, ha, hv⟩ := R.var
  have hlt := (List.getElem?_eq_some_iff.1 hy).1
  have hx1 : (h.set p (rv r v.lasts.length y n v.down))[p]? = some (rv r v.lasts.length y n v.down) := by simp [hlt]
  refine ⟨_, rst2 hy n, Keep.set h _ R.hp, fun hn => ?_, fun hn => ⟨_, rst2 hx1 0, ?_, ?_⟩⟩
  · have := R.upd hy ha hv n v.down
    unfold Dk.setFuse
    rw [show max n 0 = n by omega]
    exact this
  · rw [List.set_set]; exact Keep.set h _ R.hp
  · rw [List.set_set]
    have := R.upd hy ha hv 0 v.down
    unfold Dk.setFuse
    rw [show max n 0 = 0 by omega]
    exact this
end Go.Ax

set_option linter.unusedVariables false
namespace Go.Ax
open Go Go.Proofs
noncomputable def O28 (i : Nat) : Array Oper := opsOf i (bodyOf Try.f28)
noncomputable def B28_1 : Code := (.seq (.seq (.region 9 (O28 9) false) (.cond (Go.Operand.tmp 57) .skip (.exit 2))) (.seq (.block 3 (.region 11 (O28 11) false)) (.region 10 (O28 10) false)))
noncomputable def B28_2 : Code := (.seq (.seq (.region 16 (O28 16) false) (.cond (Go.Operand.tmp 75) .skip (.exit 4))) (.seq (.block 5 (.region 18 (O28 18) true)) (.region 17 (O28 17) false)))
noncomputable def B28_3 : Code := (.seq (.seq (.region 2 (O28 2) false) (.cond (Go.Operand.tmp 27) .skip (.exit 0))) (.block 1 (.seq (.region 3 (O28 3) false) (.seq (.region 4 (O28 4) false) (.seq (.region 5 (O28 5) false) (.seq (.seq (.region 6 (O28 6) false) (.cond (Go.Operand.tmp 54) (.exit 0) .skip)) (.seq (.region 7 (O28 7) false) (.seq (.seq (.region 8 (O28 8) false) (.block 2 (.loop B28_1))) (.seq (.region 12 (O28 12) false) (.seq (.region 13 (O28 13) false) (.seq (.region 14 (O28 14) false) (.seq (.seq (.region 15 (O28 15) false) (.block 4 (.loop B28_2))) (.seq (.seq (.region 19 (O28 19) false) (.cond (Go.Operand.tmp 92) (.exit 0) .skip)) (.seq (.region 20 (O28 20) false) (.region 21 (O28 21) false)))))))))))))))
theorem s28 : bodyOf Try.f28 = (.seq (.region 0 (O28 0) false) (.seq (.region 1 (O28 1) false) (.seq (.block 0 (.loop B28_3)) (.seq (.region 22 (O28 22) false) .ret)))) := by kernel_rfl
theorem e28 : E0 28 = some ⟨102, [8, 9], bodyOf Try.f28⟩ := by kernel_rfl
theorem r28_0 (x0 x1 x2 x3 : AV) : RR O28 28 102 0 false [(0, x0), (1, x1), (2, x2), (3, x3)] fun _ call md k h =>
 k .normal (st 102 [(0, x0), (1, x1), (2, x2), (3, x3)]) h
 := fun _ _ _ _ _ _ => by kernel_rfl
theorem r28_1 (x0 x1 x2 x3 : AV) : RR O28 28 102 1 false [(0, x0), (1, x1), (2, x2), (3, x3)] fun _ call md k h =>
 k .normal (st 102 [(0, x0), (1, x1), (2, x2), (3, x3), (10, .nils)]) h
 := fun _ _ _ _ _ _ => by kernel_rfl
theorem r28_2 (x0 x1 x2 x3 x10 : AV) : RR O28 28 102 2 false [(0, x0), (1, x1), (2, x2), (3, x3), (10, x10)] fun _ call md k h =>
 bnd (aBinC tab .geq 3 x1 (.int .i64 0) true) fun v1 =>
 gd true v1 h (fun k => k x1 h) fun v2 h3 =>
 gd true v1 h3 (fun k => k x0 h3) fun v4 h5 =>
 gd true v1 h5 (fun k => k x2 h5) fun v6 h7 =>
 gd true v1 h7 (fun k => bnd2 (call md 56 [v4, v6] h7) k) fun v8 h9 =>
 gd true v1 h9 (fun k => bnd (aBinC tab .lss 3 v2 v8 false) (k · h9)) fun v10 h11 =>
 bnd (aPick v1 v10 (.bool false)) fun v12 =>
 k .normal (st 102 [(0, x0), (1, x1), (2, x2), (3, x3), (10, x10), (27, v12)]) h11
 := fun _ _ _ _ _ _ => by kernel_rfl
theorem r28_3 (x0 x1 x2 x3 x10 x27 : AV) : RR O28 28 102 3 false [(0, x0), (1, x1), (2, x2), (3, x3), (10, x10), (27, x27)] fun _ call md k h =>
 bnd2 (call md 57 [x0, x1] h) fun v1 h2 =>
 k .normal (st 102 [(0, x0), (1, x1), (2, x2), (3, x3), (10, x10), (11, v1)]) h2
 := fun _ _ _ _ _ _ => by kernel_rfl
theorem r28_4 (x0 x1 x2 x3 x10 x11 : AV) : RR O28 28 102 4 false [(0, x0), (1, x1), (2, x2), (3, x3), (10, x10), (11, x11)] fun _ call md k h =>
 bnd (aSlice tab 22 x11 (some (.int .i64 4)) none none) fun v1 =>
 bnd2 (call md 58 [v1] h) fun v2 h3 =>
 k .normal (st 102 [(0, x0), (1, x1), (2, x2), (3, x3), (10, x10), (11, x11), (12, v2)]) h3
 := fun _ _ _ _ _ _ => by kernel_rfl
theorem r28_5 (x0 x1 x2 x3 x10 x11 x12 : AV) : RR O28 28 102 5 false [(0, x0), (1, x1), (2, x2), (3, x3), (10, x10), (11, x11), (12, x12)] fun _ call md k h =>
 bnd (aBinC tab .add 3 x12 (.int .i64 63) true) fun v1 =>
 bnd (aBinC tab .quo 3 v1 (.int .i64 64) true) fun v2 =>
 bnd (aBinC tab .add 3 (.int .i64 1) v2 true) fun v3 =>
 k .normal (st 102 [(0, x0), (1, x1), (2, x2), (3, x3), (10, x10), (11, x11), (12, x12), (13, v3)]) h
 := fun _ _ _ _ _ _ => by kernel_rfl
theorem r28_6 (x0 x1 x2 x3 x10 x11 x12 x13 : AV) : RR O28 28 102 6 false [(0, x0), (1, x1), (2, x2), (3, x3), (10, x10), (11, x11), (12, x12), (13, x13)] fun _ call md k h =>
 bnd2 (call md 58 [x11] h) fun v1 h2 =>
 bnd (aBinC tab .neq 3 v1 x3 false) fun v3 =>
 gd false v3 h2 (fun k => k x12 h2) fun v4 h5 =>
 gd false v3 h5 (fun k => bnd (aBinC tab .gtr 3 v4 (.int .i64 8192) true) (k · h5)) fun v6 h7 =>
 bnd (aPick v3 (.bool true) v6) fun v8 =>
 gd false v8 h7 (fun k => k x13 h7) fun v9 h10 =>
 gd false v8 h10 (fun k => k x0 h10) fun v11 h12 =>
 gd false v8 h12 (fun k => k x2 h12) fun v13 h14 =>
 gd false v8 h14 (fun k => bnd2 (call md 56 [v11, v13] h14) k) fun v15 h16 =>
 gd false v8 h16 (fun k => k x1 h16) fun v17 h18 =>
 gd false v8 h18 (fun k => bnd (aBinC tab .sub 3 v15 v17 false) (k · h18)) fun v19 h20 =>
 gd false v8 h20 (fun k => bnd (aBinC tab .gtr 3 v9 v19 false) (k · h20)) fun v21 h22 =>
 bnd (aPick v8 (.bool true) v21) fun v23 =>
 k .normal (st 102 [(0, x0), (1, x1), (2, x2), (3, x3), (10, x10), (12, x12), (13, x13), (54, v23)]) h22
 := fun _ _ _ _ _ _ => by kernel_rfl
theorem r28_7 (x0 x1 x2 x3 x10 x12 x13 x54 : AV) : RR O28 28 102 7 false [(0, x0), (1, x1), (2, x2), (3, x3), (10, x10), (12, x12), (13, x13), (54, x54)] fun _ call md k h =>
 k .normal (st 102 [(0, x0), (1, x1), (2, x2), (3, x3), (10, x10), (12, x12), (13, x13), (14, .nils)]) h
 := fun _ _ _ _ _ _ => by kernel_rfl
theorem r28_8 (x0 x1 x2 x3 x10 x12 x13 x14 : AV) : RR O28 28 102 8 false [(0, x0), (1, x1), (2, x2), (3, x3), (10, x10), (12, x12), (13, x13), (14, x14)] fun _ call md k h =>
 k .normal (st 102 [(0, x0), (1, x1), (2, x2), (3, x3), (10, x10), (12, x12), (13, x13), (14, x14), (15, (.int .i64 1))]) h
 := fun _ _ _ _ _ _ => by kernel_rfl
theorem r28_9 (x0 x1 x2 x3 x10 x12 x13 x14 x15 : AV) : RR O28 28 102 9 false [(0, x0), (1, x1), (2, x2), (3, x3), (10, x10), (12, x12), (13, x13), (14, x14), (15, x15)] fun _ call md k h =>
 bnd (aBinC tab .lss 3 x15 x13 false) fun v1 =>
 k .normal (st 102 [(0, x0), (1, x1), (2, x2), (3, x3), (10, x10), (12, x12), (13, x13), (14, x14), (15, x15), (57, v1)]) h
 := fun _ _ _ _ _ _ => by kernel_rfl
theorem r28_10 (x0 x1 x2 x3 x10 x12 x13 x14 x15 : AV) : RR O28 28 102 10 false [(0, x0), (1, x1), (2, x2), (3, x3), (10, x10), (12, x12), (13, x13), (14, x14), (15, x15)] fun _ call md k h =>
 bnd (aBinC tab .add 3 x15 (.int .i64 1) true) fun v1 =>
 k .normal (st 102 [(0, x0), (1, x1), (2, x2), (3, x3), (10, x10), (12, x12), (13, x13), (14, x14), (15, v1)]) h
 := fun _ _ _ _ _ _ => by kernel_rfl
theorem r28_11 (x0 x1 x2 x3 x10 x12 x13 x14 x15 x57 : AV) : RR O28 28 102 11 false [(0, x0), (1, x1), (2, x2), (3, x3), (10, x10), (12, x12), (13, x13), (14, x14), (15, x15), (57, x57)] fun _ call md k h =>
 bnd (aBinC tab .add 3 x1 x15 false) fun v1 =>
 bnd2 (call md 57 [x0, v1] h) fun v2 h3 =>
 bnd2 (aApp tab 22 22 md x14 v2 h3) fun v4 h5 =>
 k .normal (st 102 [(0, x0), (1, x1), (2, x2), (3, x3), (10, x10), (12, x12), (13, x13), (14, v4), (15, x15)]) h5
 := fun _ _ _ _ _ _ => by kernel_rfl
theorem r28_12 (x0 x1 x2 x3 x10 x12 x13 x14 x15 x57 : AV) : RR O28 28 102 12 false [(0, x0), (1, x1), (2, x2), (3, x3), (10, x10), (12, x12), (13, x13), (14, x14), (15, x15), (57, x57)] fun _ call md k h =>
 bnd (aSlice tab 22 x14 none (some x12) none) fun v1 =>
 k .normal (st 102 [(0, x0), (1, x1), (2, x2), (3, x3), (10, x10), (13, x13), (14, v1)]) h
 := fun _ _ _ _ _ _ => by kernel_rfl
theorem r28_13 (x0 x1 x2 x3 x10 x13 x14 : AV) : RR O28 28 102 13 false [(0, x0), (1, x1), (2, x2), (3, x3), (10, x10), (13, x13), (14, x14)] fun _ call md k h =>
 bnd2 (call md 32 [x3, x14] h) fun v1 h2 =>
 k .normal (st 102 [(0, x0), (1, x1), (2, x2), (3, x3), (10, x10), (13, x13), (14, x14), (16, v1)]) h2
 := fun _ _ _ _ _ _ => by kernel_rfl
theorem r28_14 (x0 x1 x2 x3 x10 x13 x14 x16 : AV) : RR O28 28 102 14 false [(0, x0), (1, x1), (2, x2), (3, x3), (10, x10), (13, x13), (14, x14), (16, x16)] fun _ call md k h =>
 k .normal (st 102 [(0, x0), (1, x1), (2, x2), (3, x3), (10, x10), (13, x13), (14, x14), (16, x16), (17, (.bool true))]) h
 := fun _ _ _ _ _ _ => by kernel_rfl
theorem r28_15 (x0 x1 x2 x3 x10 x13 x14 x16 x17 : AV) : RR O28 28 102 15 false [(0, x0), (1, x1), (2, x2), (3, x3), (10, x10), (13, x13), (14, x14), (16, x16), (17, x17)] fun _ call md k h =>
 k .normal (st 102 [(0, x0), (1, x1), (2, x2), (3, x3), (10, x10), (13, x13), (14, x14), (16, x16), (17, x17), (18, (.int .i64 0))]) h
 := fun _ _ _ _ _ _ => by kernel_rfl
theorem r28_16 (x0 x1 x2 x3 x10 x13 x14 x16 x17 x18 : AV) : RR O28 28 102 16 false [(0, x0), (1, x1), (2, x2), (3, x3), (10, x10), (13, x13), (14, x14), (16, x16), (17, x17), (18, x18)] fun _ call md k h =>
 bnd (aBinC tab .lss 3 x18 x13 false) fun v1 =>
 k .normal (st 102 [(0, x0), (1, x1), (2, x2), (3, x3), (10, x10), (13, x13), (14, x14), (16, x16), (17, x17), (18, x18), (75, v1)]) h
 := fun _ _ _ _ _ _ => by kernel_rfl
theorem r28_17 (x0 x1 x2 x3 x10 x13 x14 x16 x17 x18 : AV) : RR O28 28 102 17 false [(0, x0), (1, x1), (2, x2), (3, x3), (10, x10), (13, x13), (14, x14), (16, x16), (17, x17), (18, x18)] fun _ call md k h =>
 bnd (aBinC tab .add 3 x18 (.int .i64 1) true) fun v1 =>
 k .normal (st 102 [(0, x0), (1, x1), (2, x2), (3, x3), (10, x10), (13, x13), (14, x14), (16, x16), (17, x17), (18, v1)]) h
 := fun _ _ _ _ _ _ => by kernel_rfl
theorem r28_18 (x0 x1 x2 x3 x10 x13 x14 x16 x17 x18 x75 : AV) : RR O28 28 102 18 true [(0, x0), (1, x1), (2, x2), (3, x3), (10, x10), (13, x13), (14, x14), (16, x16), (17, x17), (18, x18), (75, x75)] fun _ call md k h =>
 gd true x17 h (fun k => k x16 h) fun v1 h2 =>
 gd true x17 h2 (fun k => k x18 h2) fun v3 h4 =>
 gd true x17 h4 (fun k => bnd (aIndexAddr tab 30 v1 v3) (k · h4)) fun v5 h6 =>
 gd true x17 h6 (fun k => bnd (aLoad tab 22 v5 h6) (k · h6)) fun v7 h8 =>
 gd true x17 h8 (fun k => k x0 h8) fun v9 h10 =>
 gd true x17 h10 (fun k => k x1 h10) fun v11 h12 =>
 gd true x17 h12 (fun k => k x18 h12) fun v13 h14 =>
 gd true x17 h14 (fun k => bnd (aBinC tab .add 3 v11 v13 false) (k · h14)) fun v15 h16 =>
 gd true x17 h16 (fun k => bnd2 (call md 57 [v9, v15] h16) k) fun v17 h18 =>
 gd true x17 h18 (fun k => bnd2 (call md 22 [v7, v17] h18) k) fun v19 h20 =>
 bnd (aPick x17 v19 (.bool false)) fun v21 =>
 onT (okG true x17 (rdSame (aLoad tab 22 v5 h18) v7)) <|
 k .normal (st 102 [(0, x0), (1, x1), (2, x2), (3, x3), (10, x10), (13, x13), (14, x14), (16, x16), (17, v21), (18, x18)]) h20
 := RRp [(5, 10)] (by kernel_rfl) (by kernel_rfl) (fun _ _ _ _ _ => by kernel_rfl)
theorem r28_19 (x0 x1 x2 x3 x10 x13 x14 x16 x17 x18 x75 : AV) : RR O28 28 102 19 false [(0, x0), (1, x1), (2, x2), (3, x3), (10, x10), (13, x13), (14, x14), (16, x16), (17, x17), (18, x18), (75, x75)] fun _ call md k h =>
 bnd (aUn .not x17) fun v1 =>
 k .normal (st 102 [(0, x0), (1, x1), (2, x2), (3, x3), (10, x10), (13, x13), (14, x14), (92, v1)]) h
 := fun _ _ _ _ _ _ => by kernel_rfl
theorem r28_20 (x0 x1 x2 x3 x10 x13 x14 x92 : AV) : RR O28 28 102 20 false [(0, x0), (1, x1), (2, x2), (3, x3), (10, x10), (13, x13), (14, x14), (92, x92)] fun _ call md k h =>
 bnd (aLit tab 30 1 [(0, x14)]) fun v1 =>
 bnd2 (aApp tab 30 30 md x10 v1 h) fun v2 h3 =>
 k .normal (st 102 [(0, x0), (1, x1), (2, x2), (3, x3), (10, v2), (13, x13)]) h3
 := fun _ _ _ _ _ _ => by kernel_rfl
theorem r28_21 (x0 x1 x2 x3 x10 x13 : AV) : RR O28 28 102 21 false [(0, x0), (1, x1), (2, x2), (3, x3), (10, x10), (13, x13)] fun _ call md k h =>
 bnd (aBinC tab .add 3 x1 x13 false) fun v1 =>
 k .normal (st 102 [(0, x0), (1, v1), (2, x2), (3, x3), (10, x10)]) h
 := fun _ _ _ _ _ _ => by kernel_rfl
theorem r28_22a (x0 x1 x2 x3 x10 x12 x13 x54 : AV) : RR O28 28 102 22 false [(0, x0), (1, x1), (2, x2), (3, x3), (10, x10), (12, x12), (13, x13), (54, x54)] fun _ call md k h =>
 k .normal (st 102 [(8, x10), (9, x1)]) h
 := fun _ _ _ _ _ _ => by kernel_rfl
theorem r28_22b (x0 x1 x2 x3 x10 x13 x14 x92 : AV) : RR O28 28 102 22 false [(0, x0), (1, x1), (2, x2), (3, x3), (10, x10), (13, x13), (14, x14), (92, x92)] fun _ call md k h =>
 k .normal (st 102 [(8, x10), (9, x1)]) h
 := fun _ _ _ _ _ _ => by kernel_rfl
theorem r28_22c (x0 x1 x2 x3 x10 x27 : AV) : RR O28 28 102 22 false [(0, x0), (1, x1), (2, x2), (3, x3), (10, x10), (27, x27)] fun _ call md k h =>
 k .normal (st 102 [(8, x10), (9, x1)]) h
 := fun _ _ _ _ _ _ => by kernel_rfl
def R28 := And.intro @r28_0 <| And.intro @r28_1 <| And.intro @r28_2 <| And.intro @r28_3 <| And.intro @r28_4 <| And.intro @r28_5 <| And.intro @r28_6 <| And.intro @r28_7 <| And.intro @r28_8 <| And.intro @r28_9 <| And.intro @r28_10 <| And.intro @r28_11 <| And.intro @r28_12 <| And.intro @r28_13 <| And.intro @r28_14 <| And.intro @r28_15 <| And.intro @r28_16 <| And.intro @r28_17 <| And.intro @r28_18 <| And.intro @r28_19 <| And.intro @r28_20 <| And.intro @r28_21 <| And.intro @r28_22a <| And.intro @r28_22b <| @r28_22c
end Go.Ax

namespace Go.Ax
open Go Go.Proofs
def isEntry (now : List (List UInt8)) (a : Nat) (gen : Int) (b : List UInt8) : Prop := ∀ i, i < nOf b → (entryOf gen b)[i]? = now[a + i]?
theorem pad_head_iff {c x : List UInt8} (hc : c.length = 64) (hx : x.length = 16) : pad x = c ↔ x = c.take 16 ∧ (c.drop 16).all (· == 0) = true := by
  constructor
  · rintro rfl
    have h1 : (pad x).take x.length = x := pad_take
    have h2 : (pad x).drop x.length = _ := pad_drop
    rw [hx] at h1 h2
    rw [h1, h2]
    exact ⟨rfl, all_zero _⟩
  · rintro ⟨h1, h2⟩
    have e : c.drop 16 = List.replicate 48 0 := by
      refine List.eq_replicate_iff.2 ⟨by simp [hc], fun b hb => ?_⟩
      simpa using List.all_eq_true.1 h2 b hb
    unfold pad
    rw [hx, ← e, h1, List.take_append_drop]
theorem bodyAt_get (now : List (List UInt8)) (hc : ∀ b ∈ now, b.length = 64) (a n : Nat) (hn : a + 1 + n ≤ now.length) (j : Nat) (hj : j < n) : now[a + 1 + j]? = some (((bodyAt now a n).drop (64 * j)).take 64) := by
  induction n with
  | zero => omega
  | succ n ih =>
    have hlt : a + 1 + n < now.length := by omega
    have hl := bodyAt_length now hc a n (by omega)
    rw [bodyAt_succ now a n now[a + 1 + n] (List.getElem?_eq_getElem hlt)]
    by_cases h : j < n
    · rw [ih (by omega) h, List.drop_append_of_le_length (by omega), List.take_append_of_le_length (by simp; omega)]
    · obtain rfl : j = n := by omega
      have h64 : now[a + 1 + j].length = 64 := hc _ (List.getElem_mem hlt)
      rw [← hl, List.drop_left, ← h64, List.take_length]
      exact List.getElem?_eq_getElem hlt
theorem chunks_iff {now : List (List UInt8)} (hc : ∀ b ∈ now, b.length = 64) (a n size : Nat) (hn : a + 1 + n ≤ now.length) (hs : size ≤ 64 * n) (hs2 : 64 * n < size + 64) :
    (∀ j, 1 ≤ j → j ≤ n → now[a + j]? = some (pad (chunk ((bodyAt now a n).take size) j))) ↔ ((bodyAt now a n).drop size).all (· == 0) = true := by
  have hl := bodyAt_length now hc a n hn
  have hg := bodyAt_get now hc a n hn
  have hbt : ((bodyAt now a n).take size).length = size := by simp; omega
  constructor
  · intro h
    have := body_chunks now a ((bodyAt now a n).take size) n (by omega) h
    rw [this, hbt, List.take_of_length_le (by omega)]
    rw [List.drop_append_of_le_length (by omega), List.drop_of_length_le (by omega), List.nil_append]
    exact all_zero _
  · intro h j h1 h2
    have e : (bodyAt now a n).drop size = List.replicate (64 * n - size) 0 := by
      refine List.eq_replicate_iff.2 ⟨by simp [hl], fun b hb => ?_⟩
      simpa using List.all_eq_true.1 h b hb
    have e2 := List.take_append_drop size (bodyAt now a n)
    rw [e] at e2
    generalize (bodyAt now a n).take size = b at *
    have := hg (j - 1) (by omega)
    rw [show a + 1 + (j - 1) = a + j by omega] at this
    rw [this, ← e2]
    congr 1
    unfold pad chunk
    rw [List.drop_append_of_le_length (by omega), List.take_append, List.length_take, List.length_drop, List.take_replicate]
    congr 2
    omega
theorem one_ref {now : List (List UInt8)} (hc : ∀ b ∈ now, b.length = 64) {a nn : Nat} {e gen : Int} (hg0 : 0 ≤ gen) (hg1 : gen < 2 ^ 31) {c : List UInt8} (hca : now[a]? = some c) (he : (a : Int) < e) :
    (((get4 c).toNat : Int) ≠ gen ∨ 8192 < (get4 (c.drop 4)).toNat ∨ min e now.length - a < sizeOf (get4 (c.drop 4)).toNat → oneOf now a e gen = none) ∧
    (¬ (((get4 c).toNat : Int) ≠ gen ∨ 8192 < (get4 (c.drop 4)).toNat ∨ min e now.length - a < sizeOf (get4 (c.drop 4)).toNat) → sizeOf (get4 (c.drop 4)).toNat = nn →
      (¬ isEntry now a gen ((bodyAt now a (nn - 1)).take (get4 (c.drop 4)).toNat) → oneOf now a e gen = none) ∧
      (isEntry now a gen ((bodyAt now a (nn - 1)).take (get4 (c.drop 4)).toNat) → oneOf now a e gen = some ((bodyAt now a (nn - 1)).take (get4 (c.drop 4)).toNat))) := by
  have hlt := (List.getElem?_eq_some_iff.1 hca).1
  have hcl := hc c (List.mem_of_getElem? hca)
  have g1 : ((get4 c).toNat : Int) = gen ↔ get4 c = BitVec.ofInt 32 gen := by
    have e1 := toNat_ofInt32 gen
    constructor
    · intro h
      apply BitVec.eq_of_toNat_eq
      omega
    · intro h; rw [h]; omega
  have g3 : ∀ b, pad (head16 (BitVec.ofInt 32 gen) b) = c → crc (c.take 12) = get4 (c.drop 12) := by
    intro b h
    subst h
    have hp : pad (head16 (BitVec.ofInt 32 gen) b) = be4 (BitVec.ofInt 32 gen) ++ (be4 (BitVec.ofNat 32 b.length) ++ (be4 (crc b) ++ (be4 (crc (head12 (BitVec.ofInt 32 gen) b)) ++ List.replicate 48 0))) := by
      unfold pad; rw [head16_length]; simp [head16, head12]
    rw [hp, show ∀ (u v w : BitVec 32) r, (be4 u ++ (be4 v ++ (be4 w ++ r))).drop 12 = r from fun _ _ _ _ => rfl, get4_be4]
    rfl
  constructor
  · intro h
    by_cases q : e ≤ a ∨ get4 c ≠ BitVec.ofInt 32 gen ∨ crc (c.take 12) ≠ get4 (c.drop 12)
    · exact oneOf_head hca q
    · rcases h with h | h | h
      · exact absurd (.inr (.inl fun x => h (g1.2 x))) q
      · exact oneOf_size hca q (.inl h)
      · exact oneOf_size hca q (.inr h)
  · intro h hnn
    have h1 : get4 c = BitVec.ofInt 32 gen := g1.1 (by omega)
    have h2 : ¬ (8192 < (get4 (c.drop 4)).toNat ∨ min e now.length - a < sizeOf (get4 (c.drop 4)).toNat) := fun x => h (.inr x)
    generalize hsz : (get4 (c.drop 4)).toNat = size at *
    have hsz2 : (nn : Int) = 1 + ((size : Int) + 63) / 64 := by rw [← hnn]; unfold sizeOf; omega
    have hbl := bodyAt_length now hc a (nn - 1) (by omega)
    have hbt : ((bodyAt now a (nn - 1)).take size).length = size := by simp; omega
    have hnb := nOf_eq' ((bodyAt now a (nn - 1)).take size)
    rw [hbt] at hnb
    have hci := chunks_iff hc a (nn - 1) size (by omega) (by omega) (by omega)
    have iff : isEntry now a gen ((bodyAt now a (nn - 1)).take size) ↔ head16 (BitVec.ofInt 32 gen) ((bodyAt now a (nn - 1)).take size) = c.take 16 ∧ (c.drop 16).all (· == 0) = true ∧ ((bodyAt now a (nn - 1)).drop size).all (· == 0) = true := by
      rw [← and_assoc, ← pad_head_iff hcl (head16_length _ _), ← hci]
      constructor
      · intro hi
        refine ⟨?_, fun j j1 j2 => ?_⟩
        · have := hi 0 (by omega)
          rw [entryOf_head, Nat.add_zero, hca] at this
          exact Option.some.inj this
        · rw [← hi j (by omega)]
          exact entryOf_get _ _ _ j1 (by omega)
      · rintro ⟨p1, p2⟩ i hi
        by_cases h0 : i = 0
        · subst h0; rw [entryOf_head, Nat.add_zero, hca, p1]
        · rw [entryOf_get _ _ _ (by omega) hi, p2 i (by omega) (by omega)]
    have hcrc : isEntry now a gen ((bodyAt now a (nn - 1)).take size) → crc (c.take 12) = get4 (c.drop 12) := by
      intro hi
      refine g3 ((bodyAt now a (nn - 1)).take size) ?_
      have := hi 0 (by omega)
      rw [entryOf_head, Nat.add_zero, hca] at this
      exact Option.some.inj this
    by_cases hq : crc (c.take 12) = get4 (c.drop 12)
    · have hh : ¬ (e ≤ a ∨ get4 c ≠ BitVec.ofInt 32 gen ∨ crc (c.take 12) ≠ get4 (c.drop 12)) := by
        rintro (x | x | x)
        · omega
        · exact x h1
        · exact x hq
      have hgo := oneOf_go (nn := nn) hca hh (by rw [hsz]; exact h2) (by rw [hsz]; exact hnn)
      rw [hsz] at hgo
      constructor
      · intro hn
        rw [hgo, if_neg (fun x => hn (iff.2 x))]
      · intro hi
        rw [hgo, if_pos (iff.1 hi)]
    · refine ⟨fun _ => oneOf_head hca (.inr (.inr hq)), fun hi => absurd (hcrc hi) hq⟩
theorem rbody_loop {S U : Obs} {p r : Nat} {d : Dk} (hl : d.loose.length < 2 ^ 30) (dis : ∀ i, S i → ¬ U i) (a nn : Nat) (ha : a + nn ≤ d.lasts.length) (x2 x3 x10 x12 : AV) (N : Nat) (hN : d.loose.length < N) :
    ∀ (m i n : Nat) (acc : AV) (h : Heap), i + 1 + m = nn → m < n → Up U h → Rsk S h p r d → ApB U h acc (bodyAt d.now a i) →
    ∃ acc' h', (∀ K : Ex → List AV → Heap → Option (AV × Heap), loopK (fun next => runK C0 (exFn C0 E0 (N + 1)) false 28 (N + 1) B28_1 (seqE next K)) n (st 102 [(0, rp p), (1, .int .i64 a), (2, x2), (3, x3), (10, x10), (12, x12), (13, .int .i64 nn), (14, acc), (15, .int .i64 ((i + 1 : Nat) : Int))]) h =
      K (.exit 2) (st 102 [(0, rp p), (1, .int .i64 a), (2, x2), (3, x3), (10, x10), (12, x12), (13, .int .i64 nn), (14, acc'), (15, .int .i64 nn), (57, .bool false)]) h') ∧
      ApB U h' acc' (bodyAt d.now a (nn - 1)) ∧ Keep U h h' := by
  intro m
  induction m with
  | zero =>
    intro i n acc h hi hn up D hacc
    obtain ⟨n, rfl⟩ : ∃ j, n = j + 1 := ⟨n - 1, by omega⟩
    obtain rfl : nn = i + 1 := by omega
    refine ⟨acc, h, fun K => ?_, by simpa using hacc, Keep.refl _ _⟩
    rw [loopK_succ]
    generalize loopK (_ : (List AV → Heap → Option (AV × Heap)) → List AV → Heap → Option (AV × Heap)) n = Lp
    have e : decide (((i + 1 : Nat) : Int) < ((i + 1 : Nat) : Int)) = false := decide_eq_false (by omega)
    simp -implicitDefEqProofs only [B28_1, ↓RK, RK, ↓RB, RB, decide_true, decide_false, STs, Nat.reduceBEq, ↓reduceIte, Nat.reduceLT, ↓R28, R28, bin_lss, e]
  | succ m ih =>
    intro i n acc h hi hn up D hacc
    obtain ⟨n, rfl⟩ : ∃ j, n = j + 1 := ⟨n - 1, by omega⟩
    have hf := D.few
    have e : decide (((i + 1 : Nat) : Int) < (nn : Nat)) = true := decide_eq_true (by omega)
    have wa : IntKind.i64.wrap ((a : Int) + ((i + 1 : Nat) : Int)) = ((a + 1 + i : Nat) : Int) := by rw [wrap_i64] <;> omega
    have wr : IntKind.i64.wrap (((i + 1 : Nat) : Int) + 1) = ((i + 1 + 1 : Nat) : Int) := by rw [wrap_i64] <;> omega
    obtain ⟨y, r1, r2⟩ := rread_ok D hl ((a + 1 + i : Nat) : Int) false N hN
    have hnl : d.now.length = d.lasts.length := land_length _ _
    have hlt : a + 1 + i < d.now.length := by omega
    have hrd : d.rread ((a + 1 + i : Nat) : Int) = d.now[a + 1 + i] := by
      unfold Dk.rread
      rw [if_pos ⟨by omega, by omega⟩, Int.toNat_natCast, List.getElem?_eq_getElem hlt]
      rfl
    rw [hrd] at r2
    have hnc : ∀ b ∈ d.now, b.length = 64 := land_cells _ _ D.cells fun w hw => (D.loose w hw).2
    have hlen := hnc _ (List.getElem_mem hlt)
    have hbs := bodyAt_succ d.now a i _ (List.getElem?_eq_getElem hlt)
    have hbl := bodyAt_length d.now hnc a i (by omega)
    generalize d.now[a + 1 + i] = c at *
    obtain ⟨acc', h2, ap, a2, k2, -⟩ := ApB.append (l := bodyAt d.now a i) hacc up (new := c) (by intro e; subst e; simp at hlen) (by omega)
    have by2 : By U h y c := .inl r2
    rw [← hbs] at a2
    obtain ⟨acc'', h3, g1, g2, g3⟩ := ih (i + 1) n acc' h2 (by omega) (by omega) (up.keep k2) (D.keep k2 fun j _ hj => dis j hj) a2
    refine ⟨acc'', h3, fun K => ?_, g2, k2.trans g3⟩
    rw [loopK_succ, ← g1 K]
    generalize loopK (_ : (List AV → Heap → Option (AV × Heap)) → List AV → Heap → Option (AV × Heap)) n = Lp
    simp -implicitDefEqProofs only [B28_1, ↓RK, RK, ↓RB, RB, decide_true, decide_false, STs, Nat.reduceBEq, ↓reduceIte, Nat.reduceLT, ↓R28, R28, bin_lss, e, bin_add, wa, wr, r1, app22s by2.src, ap]
theorem rcmp_loop {S : Obs} {p r : Nat} {d : Dk} (hl : d.loose.length < 2 ^ 30) (a : Nat) {y : AV} {es : List (List UInt8)} (hy : Rw y es) (hes : ∀ b ∈ es, b.length = 64) (ha : a + es.length ≤ d.lasts.length) (x2 x3 x10 x14 : AV) (N : Nat) (hN : d.loose.length + 80 < N) (h : Heap) (D : Rsk S h p r d) :
    ∀ (m i n : Nat) (ok : Bool), i + m = es.length → m < n → (ok = true ↔ ∀ j, j < i → es[j]? = d.now[a + j]?) →
    ∃ ok', (∀ K : Ex → List AV → Heap → Option (AV × Heap), loopK (fun next => runK C0 (exFn C0 E0 (N + 1)) false 28 (N + 1) B28_2 (seqE next K)) n (st 102 [(0, rp p), (1, .int .i64 a), (2, x2), (3, x3), (10, x10), (13, .int .i64 es.length), (14, x14), (16, y), (17, .bool ok), (18, .int .i64 i)]) h =
      K (.exit 4) (st 102 [(0, rp p), (1, .int .i64 a), (2, x2), (3, x3), (10, x10), (13, .int .i64 es.length), (14, x14), (16, y), (17, .bool ok'), (18, .int .i64 es.length), (75, .bool false)]) h) ∧
      (ok' = true ↔ ∀ j, j < es.length → es[j]? = d.now[a + j]?) := by
  intro m
  induction m with
  | zero =>
    intro i n ok hi hn hok
    obtain ⟨n, rfl⟩ : ∃ j, n = j + 1 := ⟨n - 1, by omega⟩
    obtain rfl : i = es.length := by omega
    refine ⟨ok, fun K => ?_, hok⟩
    rw [loopK_succ]
    generalize loopK (_ : (List AV → Heap → Option (AV × Heap)) → List AV → Heap → Option (AV × Heap)) n = Lp
    have e : decide (((es.length : Nat) : Int) < (es.length : Nat)) = false := decide_eq_false (by omega)
    simp -implicitDefEqProofs only [B28_2, ↓RK, RK, ↓RB, RB, decide_true, decide_false, STs, Nat.reduceBEq, ↓reduceIte, Nat.reduceLT, ↓R28, R28, bin_lss, e]
  | succ m ih =>
    intro i n ok hi hn hok
    obtain ⟨n, rfl⟩ : ∃ j, n = j + 1 := ⟨n - 1, by omega⟩
    have hf := D.few
    have e : decide (((i : Nat) : Int) < (es.length : Nat)) = true := decide_eq_true (by omega)
    have wa : IntKind.i64.wrap ((a : Int) + (i : Int)) = ((a + i : Nat) : Int) := by rw [wrap_i64] <;> omega
    have wr : IntKind.i64.wrap ((i : Int) + 1) = ((i + 1 : Nat) : Int) := by rw [wrap_i64] <;> omega
    have hnl : d.now.length = d.lasts.length := land_length _ _
    have hlt : a + i < d.now.length := by omega
    have hie : i < es.length := by omega
    have hei := List.getElem?_eq_getElem hie
    cases ok
    case false =>
      obtain ⟨ok', g1, g2⟩ := ih (i + 1) n false (by omega) (by omega) ⟨fun h => (Bool.false_ne_true h).elim, fun h => hok.2 fun j hj => h j (by omega)⟩
      refine ⟨ok', fun K => ?_, g2⟩
      rw [loopK_succ, ← g1 K]
      generalize loopK (_ : (List AV → Heap → Option (AV × Heap)) → List AV → Heap → Option (AV × Heap)) n = Lp
      simp -implicitDefEqProofs only [B28_2, ↓RK, RK, ↓RB, RB, decide_true, decide_false, STs, Nat.reduceBEq, ↓reduceIte, Nat.reduceLT, ↓R28, R28, bin_lss, e, bin_add, wr]
    case true =>
      obtain ⟨y1, r1, r2⟩ := rread_ok D hl ((a + i : Nat) : Int) false N (by omega)
      have hrd : d.rread ((a + i : Nat) : Int) = d.now[a + i] := by
        unfold Dk.rread
        rw [if_pos ⟨by omega, by omega⟩, Int.toNat_natCast, List.getElem?_eq_getElem hlt]
        rfl
      rw [hrd] at r2
      obtain ⟨v, hv, bv⟩ := hy.idx hei
      have h64 := hes _ (List.getElem_mem hie)
      have sm := same_ok bv r2 (by omega) false h (N + 1) (by omega)
      obtain ⟨ok', g1, g2⟩ := ih (i + 1) n (decide (es[i] = d.now[a + i])) (by omega) (by omega) (by
        rw [decide_eq_true_iff]
        constructor
        · intro he j hj
          by_cases hji : j = i
          · subst hji; rw [hei, List.getElem?_eq_getElem hlt, he]
          · exact hok.1 rfl j (by omega)
        · intro he
          have := he i (by omega)
          rw [hei, List.getElem?_eq_getElem hlt] at this
          exact Option.some.inj this)
      refine ⟨ok', fun K => ?_, g2⟩
      rw [loopK_succ, ← g1 K]
      generalize loopK (_ : (List AV → Heap → Option (AV × Heap)) → List AV → Heap → Option (AV × Heap)) n = Lp
      simp -implicitDefEqProofs only [B28_2, ↓RK, RK, ↓RB, RB, decide_true, decide_false, STs, Nat.reduceBEq, ↓reduceIte, Nat.reduceLT, ↓R28, R28, bin_lss, e, hv, load22, bin_add, wa, r1, sm, rdSame_refl, wr]
theorem entryOf_cells (gen : Int) (b : List UInt8) : ∀ c ∈ entryOf gen b, c.length = 64 := by
  intro c hc
  simp only [entryOf, List.mem_cons, List.mem_map] at hc
  rcases hc with rfl | ⟨j, -, rfl⟩
  · exact pad_length _ (by rw [head16_length]; omega)
  · exact pad_length _ (chunk_length _ _)
theorem blkE_01 (k : Ex → List AV → Heap → Option (AV × Heap)) (tm : List AV) (h : Heap) : blkE 1 k (.exit 0) tm h = k (.exit 0) tm h := rfl
def Ends28 (tm : List AV) (acc : AV) (pos : Int) : Prop := ∀ (call : CallF) (md : Bool) (n : Nat) (k : Ex → List AV → Heap → Option (AV × Heap)) (h : Heap), runK C0 call md 28 n (.region 22 (O28 22) false) k tm h = k .normal (st 102 [(8, acc), (9, .int .i64 pos)]) h
theorem rscan_loop {S U : Obs} {p r : Nat} {d : Dk} (hl : d.loose.length < 2 ^ 30) (dis : ∀ i, S i → ¬ U i) (e gen : Int) (hg0 : 0 ≤ gen) (hg1 : gen < 2 ^ 31) (N : Nat) (hN : d.loose.length + 9000 < N) :
    ∀ (f n : Nat) (a : Int) (acc : AV) (h : Heap) (ls : List (List UInt8)), (0 ≤ a → (d.lasts.length : Int) - a < f) → f ≤ n → 0 < f → Up U h → Rsk S h p r d → ApR U h acc ls → ls.length + (f : Int) < 2 ^ 39 →
    ∃ tm acc' h', (∀ K : Ex → List AV → Heap → Option (AV × Heap), loopK (fun next => runK C0 (exFn C0 E0 (N + 2)) false 28 (N + 2) B28_3 (seqE next K)) n (st 102 [(0, rp p), (1, .int .i64 a), (2, .int .i64 e), (3, .int .i64 gen), (10, acc)]) h =
      K (.exit 0) tm h') ∧ Ends28 tm acc' (scanOf d.now e gen f a).2 ∧
      ApR U h' acc' (ls ++ (scanOf d.now e gen f a).1) ∧ Keep U h h' := by
  intro f
  induction f with
  | zero => intro n a acc h ls _ _ h0; omega
  | succ f ih =>
    intro n a acc h ls hf hn _ up D hacc hll
    obtain ⟨n, rfl⟩ : ∃ j, n = j + 1 := ⟨n - 1, by omega⟩
    have hfew := D.few
    have hnl : d.now.length = d.lasts.length := land_length _ _
    have hnc : ∀ b ∈ d.now, b.length = 64 := land_cells _ _ D.cells fun w hw => (D.loose w hw).2
    have q56 := rend_ok D e false (N + 1)
    by_cases q0 : 0 ≤ a
    case neg =>
      have e0 : decide ((0 : Int) ≤ a) = false := decide_eq_false q0
      rw [scanOf_none (oneOf_out (by omega))]
      refine ⟨st 102 [(0, rp p), (1, .int .i64 a), (2, .int .i64 e), (3, .int .i64 gen), (10, acc), (27, .bool false)], acc, h, fun K => ?_, fun call md n k h => r28_22c (rp p) (.int .i64 a) (.int .i64 e) (.int .i64 gen) acc (.bool false) _ call md n k h, by simpa using hacc, Keep.refl _ _⟩
      rw [loopK_succ]
      generalize loopK (_ : (List AV → Heap → Option (AV × Heap)) → List AV → Heap → Option (AV × Heap)) n = Lp
      simp -implicitDefEqProofs only [B28_3, ↓RK, RK, ↓RB, RB, decide_true, decide_false, STs, Nat.reduceBEq, ↓reduceIte, Nat.reduceLT, ↓R28, R28, bin_geq, e0]
    obtain ⟨a, rfl⟩ : ∃ i : Nat, a = i := ⟨a.toNat, by omega⟩
    have e0 : decide ((0 : Int) ≤ (a : Nat)) = true := decide_eq_true q0
    by_cases q1 : (a : Int) < min e d.lasts.length
    case neg =>
      have e1 : decide ((a : Int) < min e d.lasts.length) = false := decide_eq_false q1
      have ho : oneOf d.now a e gen = none := by
        by_cases hlt : a < d.now.length
        · exact oneOf_head (List.getElem?_eq_getElem hlt) (.inl (by omega))
        · exact oneOf_out (by omega)
      rw [scanOf_none ho]
      refine ⟨st 102 [(0, rp p), (1, .int .i64 a), (2, .int .i64 e), (3, .int .i64 gen), (10, acc), (27, .bool false)], acc, h, fun K => ?_, fun call md n k h => r28_22c (rp p) (.int .i64 a) (.int .i64 e) (.int .i64 gen) acc (.bool false) _ call md n k h, by simpa using hacc, Keep.refl _ _⟩
      rw [loopK_succ]
      generalize loopK (_ : (List AV → Heap → Option (AV × Heap)) → List AV → Heap → Option (AV × Heap)) n = Lp
      simp -implicitDefEqProofs only [B28_3, ↓RK, RK, ↓RB, RB, decide_true, decide_false, STs, Nat.reduceBEq, ↓reduceIte, Nat.reduceLT, ↓R28, R28, bin_geq, e0, q56, bin_lss, e1]
    have e1 : decide ((a : Int) < min e d.lasts.length) = true := decide_eq_true q1
    have hlt : a < d.now.length := by omega
    have hca : d.now[a]? = some d.now[a] := List.getElem?_eq_getElem hlt
    obtain ⟨y, r1, r2⟩ := rread_ok D hl (a : Int) false (N + 1) (by omega)
    have hrd : d.rread (a : Int) = d.now[a] := by
      unfold Dk.rread
      rw [if_pos ⟨by omega, by omega⟩, Int.toNat_natCast, hca]
      rfl
    rw [hrd] at r2
    have hlen := hnc _ (List.getElem_mem hlt)
    generalize d.now[a] = c at *
    obtain ⟨z, sz, bz⟩ := r2.from 4 (by omega)
    simp only [Int.cast_ofNat_Int] at sz
    have g1 := num_ok r2 (by omega) false h (N + 1)
    have g2 := num_ok bz (by simp; omega) false h (N + 1)
    have hone := fun nn => one_ref (nn := nn) hnc hg0 hg1 hca (show (a : Int) < e by omega)
    have hsl : (get4 (c.drop 4)).toNat < 2 ^ 32 := (get4 (c.drop 4)).isLt
    generalize hsz : (get4 (c.drop 4)).toNat = size at *
    obtain ⟨nn, hnn⟩ : ∃ nn : Nat, sizeOf size = nn := ⟨(sizeOf size).toNat, by unfold sizeOf; omega⟩
    have hnn1 : (nn : Int) = 1 + ((size : Int) + 63) / 64 := by rw [← hnn]; unfold sizeOf; omega
    have w1 : IntKind.i64.wrap ((size : Int) + 63) = (size : Int) + 63 := by rw [wrap_i64] <;> omega
    have w2 : aBinC tab .quo 3 (.int .i64 ((size : Int) + 63)) (.int .i64 64) true = some (.int .i64 (((size : Int) + 63) / 64)) := by
      rw [bin_quo _ _ _ _ _ _ (by decide), Int.tdiv_eq_ediv_of_nonneg (by omega), wrap_i64 (by omega) (by omega)]
    have w3 : IntKind.i64.wrap (1 + ((size : Int) + 63) / 64) = nn := by rw [wrap_i64] <;> omega
    have w4 : IntKind.i64.wrap (min e d.lasts.length - (a : Int)) = min e d.lasts.length - a := by rw [wrap_i64] <;> omega
    have tail1 : ((get4 c).toNat : Int) ≠ gen ∨ 8192 < size ∨ min e d.now.length - a < sizeOf size →
        ∃ tm acc' h', (∀ K : Ex → List AV → Heap → Option (AV × Heap), loopK (fun next => runK C0 (exFn C0 E0 (N + 2)) false 28 (N + 2) B28_3 (seqE next K)) (n + 1) (st 102 [(0, rp p), (1, .int .i64 a), (2, .int .i64 e), (3, .int .i64 gen), (10, acc)]) h =
          K (.exit 0) tm h') ∧ Ends28 tm acc' (scanOf d.now e gen (f + 1) a).2 ∧ ApR U h' acc' (ls ++ (scanOf d.now e gen (f + 1) a).1) ∧ Keep U h h' := by
      intro q
      rw [scanOf_none ((hone nn).1 q)]
      refine ⟨st 102 [(0, rp p), (1, .int .i64 a), (2, .int .i64 e), (3, .int .i64 gen), (10, acc), (12, .int .i64 size), (13, .int .i64 nn), (54, .bool true)], acc, h, fun K => ?_, fun call md n k h => r28_22a (rp p) (.int .i64 a) (.int .i64 e) (.int .i64 gen) acc (.int .i64 size) (.int .i64 nn) (.bool true) _ call md n k h, by simpa using hacc, Keep.refl _ _⟩
      rw [loopK_succ]
      generalize loopK (_ : (List AV → Heap → Option (AV × Heap)) → List AV → Heap → Option (AV × Heap)) n = Lp
      by_cases qa : ((get4 c).toNat : Int) = gen
      · have ea : decide (((get4 c).toNat : Int) ≠ gen) = false := decide_eq_false fun h => h qa
        by_cases qb : 8192 < size
        · have eb : decide ((8192 : Int) < (size : Nat)) = true := decide_eq_true (by omega)
          simp -implicitDefEqProofs only [B28_3, ↓RK, RK, ↓RB, RB, decide_true, decide_false, STs, Nat.reduceBEq, ↓reduceIte, Nat.reduceLT, ↓R28, R28, bin_geq, e0, q56, bin_lss, e1, r1, sz, g2, bin_add, w1, w2, w3, g1, bin_neq, ea, bin_gtr, eb, blkE_01, seqE_e]
        · have eb : decide ((8192 : Int) < (size : Nat)) = false := decide_eq_false (by omega)
          have ec : decide (min e d.lasts.length - (a : Int) < (nn : Int)) = true := decide_eq_true (by omega)
          simp -implicitDefEqProofs only [B28_3, ↓RK, RK, ↓RB, RB, decide_true, decide_false, STs, Nat.reduceBEq, ↓reduceIte, Nat.reduceLT, ↓R28, R28, bin_geq, e0, q56, bin_lss, e1, r1, sz, g2, bin_add, w1, w2, w3, g1, bin_neq, ea, bin_gtr, eb, bin_sub, w4, ec, blkE_01, seqE_e]
      · have ea : decide (((get4 c).toNat : Int) ≠ gen) = true := decide_eq_true qa
        simp -implicitDefEqProofs only [B28_3, ↓RK, RK, ↓RB, RB, decide_true, decide_false, STs, Nat.reduceBEq, ↓reduceIte, Nat.reduceLT, ↓R28, R28, bin_geq, e0, q56, bin_lss, e1, r1, sz, g2, bin_add, w1, w2, w3, g1, bin_neq, ea, blkE_01, seqE_e]
    by_cases q : ((get4 c).toNat : Int) ≠ gen ∨ 8192 < size ∨ min e d.now.length - a < sizeOf size
    · exact tail1 q
    clear tail1
    obtain ⟨hno, hyes⟩ := (hone nn).2 q hnn
    have ea : decide (((get4 c).toNat : Int) ≠ gen) = false := decide_eq_false fun h => q (.inl h)
    have eb : decide ((8192 : Int) < (size : Nat)) = false := decide_eq_false (by omega)
    have ec : decide (min e d.lasts.length - (a : Int) < (nn : Int)) = false := decide_eq_false (by omega)
    have a0 : ApB (From h.length) h .nils (bodyAt d.now a 0) := .inl ⟨rfl, by simp [bodyAt]⟩
    obtain ⟨acb, h2, f1, f2, f3⟩ := rbody_loop (U := From h.length) (S := fun i => S i ∧ i < h.length) hl (fun i hi hj => Nat.not_le.2 hi.2 hj) a nn (by omega) (.int .i64 e) (.int .i64 gen) acc (.int .i64 size) (N + 1) (by omega) (nn - 1) 0 (N + 2) .nils h (by omega) (by omega) (Up.fresh h) D.cap a0
    rw [show ((0 + 1 : Nat) : Int) = 1 from rfl] at f1
    have hbl := bodyAt_length d.now hnc a (nn - 1) (by omega)
    generalize bodyAt d.now a (nn - 1) = all at *
    obtain ⟨w5, sw5, bw5⟩ := f2.bs.to size (by omega)
    have hbt : (all.take size).length = size := by rw [List.length_take]; omega
    have hnb := nOf_eq' (all.take size)
    rw [hbt] at hnb
    obtain ⟨ye, h3, s1, s2, s3⟩ := sectors_ok bw5 (by omega) gen h2 (N + 1) (by omega)
    have k13 := f3.fresh s3 (Up.fresh h)
    have D3 := D.fresh k13
    have acc3 := hacc.fresh k13
    have up3 := up.keep k13
    have el := entryOf_length gen (all.take size)
    obtain ⟨ok, c1, c2⟩ := rcmp_loop hl a s2.rw (entryOf_cells gen _) (by rw [el]; omega) (.int .i64 e) (.int .i64 gen) acc w5 (N + 1) (by omega) h3 D3 nn 0 (N + 2) true (by omega) (by omega) ⟨fun _ j hj => absurd hj (by omega), fun _ => rfl⟩
    rw [el, show nOf (all.take size) = nn by omega, show ((0 : Nat) : Int) = 0 from rfl] at c1
    rw [el] at c2
    change ok = true ↔ isEntry d.now a gen (all.take size) at c2
    cases ok
    · rw [scanOf_none (hno fun x => Bool.false_ne_true (c2.2 x))]
      refine ⟨st 102 [(0, rp p), (1, .int .i64 a), (2, .int .i64 e), (3, .int .i64 gen), (10, acc), (13, .int .i64 nn), (14, w5), (92, .bool true)], acc, h3, fun K => ?_, fun call md n k h => r28_22b (rp p) (.int .i64 a) (.int .i64 e) (.int .i64 gen) acc (.int .i64 nn) w5 (.bool true) _ call md n k h, by simpa using acc3, k13.up up⟩
      rw [loopK_succ]
      generalize loopK (_ : (List AV → Heap → Option (AV × Heap)) → List AV → Heap → Option (AV × Heap)) n = Lp
      simp -implicitDefEqProofs only [B28_3, ↓RK, RK, ↓RB, RB, decide_true, decide_false, STs, Nat.reduceBEq, ↓reduceIte, Nat.reduceLT, ↓R28, R28, bin_geq, e0, q56, bin_lss, e1, r1, sz, g2, bin_add, w1, w2, w3, g1, bin_neq, ea, bin_gtr, eb, bin_sub, w4, ec]
      rw [f1]
      simp -implicitDefEqProofs only [↓RK, RK, ↓RB, RB, decide_true, decide_false, STs, Nat.reduceBEq, ↓reduceIte, Nat.reduceLT, ↓R28, R28, sw5, s1]
      rw [c1]
      simp -implicitDefEqProofs only [↓RK, RK, ↓RB, RB, decide_true, decide_false, STs, Nat.reduceBEq, ↓reduceIte, Nat.reduceLT, ↓R28, R28, un_not, Bool.not_false, blkE_01, seqE_e]
    · have ho := hyes (c2.1 rfl)
      rw [scanOf_some ho]
      have hsb : sizeOf ((all.take size).length : Nat) = nn := by rw [hbt]; exact hnn
      obtain ⟨acc', h4, ap, a2, k4⟩ := acc3.append up3 bw5 (by omega)
      have wn : IntKind.i64.wrap ((a : Int) + (nn : Int)) = ((a + nn : Nat) : Int) := by rw [wrap_i64] <;> omega
      have k14 := (k13.up up).trans k4
      rw [hsb, show (a : Int) + (nn : Int) = ((a + nn : Nat) : Int) by omega]
      obtain ⟨tm, acc'', h5, i1, i2, i3, i4⟩ := ih n ((a + nn : Nat) : Int) acc' h4 (ls ++ [all.take size]) (by omega) (by omega) (by omega) (up.keep k14) (D3.keep k4 fun j _ hj => dis j hj) a2 (by simp only [List.length_append, List.length_singleton]; omega)
      refine ⟨tm, acc'', h5, fun K => ?_, i2, by simpa using i3, k14.trans i4⟩
      rw [loopK_succ, ← i1 K]
      generalize loopK (_ : (List AV → Heap → Option (AV × Heap)) → List AV → Heap → Option (AV × Heap)) n = Lp
      simp -implicitDefEqProofs only [B28_3, ↓RK, RK, ↓RB, RB, decide_true, decide_false, STs, Nat.reduceBEq, ↓reduceIte, Nat.reduceLT, ↓R28, R28, bin_geq, e0, q56, bin_lss, e1, r1, sz, g2, bin_add, w1, w2, w3, g1, bin_neq, ea, bin_gtr, eb, bin_sub, w4, ec]
      rw [f1]
      simp -implicitDefEqProofs only [↓RK, RK, ↓RB, RB, decide_true, decide_false, STs, Nat.reduceBEq, ↓reduceIte, Nat.reduceLT, ↓R28, R28, sw5, s1]
      rw [c1]
      simp -implicitDefEqProofs only [↓RK, RK, ↓RB, RB, decide_true, decide_false, STs, Nat.reduceBEq, ↓reduceIte, Nat.reduceLT, ↓R28, R28, un_not, Bool.not_true, lit30 _ bw5.fits, app30, ap, bin_add, wn]
theorem rscan_ok {S : Obs} {p r : Nat} {h : Heap} {d : Dk} (D : Rsk S h p r d) (hl : d.loose.length < 2 ^ 30) (a e gen : Int) (hg0 : 0 ≤ gen) (hg1 : gen < 2 ^ 31) (k : Nat) (hk : d.loose.length + 9005 < k) :
    ∃ x h', exFn C0 E0 (k + 1) false 28 [rp p, .int .i64 a, .int .i64 e, .int .i64 gen] h = some (.tuple [x, .int .i64 (d.scan a e gen).2], h') ∧
      ApR (From h.length) h' x (d.scan a e gen).1 ∧ Keep (From h.length) h h' := by
  obtain ⟨k, rfl⟩ : ∃ j, k = j + 2 := ⟨k - 2, by omega⟩
  have hfew := D.few
  have n0 : ([rp p, .int .i64 a, .int .i64 e, .int .i64 gen] ++ List.replicate (102 - [rp p, .int .i64 a, .int .i64 e, .int .i64 gen].length) AV.undef) = st 102 [(0, rp p), (1, .int .i64 a), (2, .int .i64 e), (3, .int .i64 gen)] := rfl
  obtain ⟨tm, x, h', h1, h2, h3, h4⟩ := rscan_loop (U := From h.length) (S := fun i => S i ∧ i < h.length) hl (fun i hi hj => Nat.not_le.2 hi.2 hj) e gen hg0 hg1 k (by omega) (d.lasts.length + 1) (k + 2) a .nils h [] (by omega) (by omega) (by omega)
    (Up.fresh h) D.cap ⟨[], .inl ⟨rfl, rfl⟩, .nil⟩ (by simp only [List.length_nil]; omega)
  refine ⟨x, h', exFn_of e28 ?_, h3, h4⟩
  rw [fnK, n0, s28]
  simp -implicitDefEqProofs only [↓RK, RK, ↓RB, RB, decide_true, decide_false, STs, Nat.reduceBEq, ↓reduceIte, Nat.reduceLT, r28_0, r28_1]
  rw [h1]
  unfold Ends28 at h2
  simp -implicitDefEqProofs only [↓RK, RK, ↓RB, RB, decide_true, decide_false, STs, Nat.reduceBEq, ↓reduceIte, Nat.reduceLT]
  rw [h2]
  simp -implicitDefEqProofs only [↓RK, RK, ↓RB, RB, decide_true, decide_false, STs, Nat.reduceBEq, ↓reduceIte, Nat.reduceLT, Dk.scan]
end Go.Ax

namespace Go.Ax
open Go Go.Proofs
theorem new_calm (n : Int) : Dk.new n = Calm (List.replicate (newN n) (List.replicate 64 0)) := rfl
theorem rowlit_hi (h : Heap) : aRowLit tab 22 2 [(0, .int .u8 104), (1, .int .u8 105)] h = some (.msl h.length [] 5 0 2, h ++ [.row 5 [U8 104, U8 105]]) := by kernel_rfl
theorem conv_hi (h : Heap) : aConv tab 22 22 (.msl h.length [] 5 0 2) (h ++ [.row 5 [U8 104, U8 105]]) = some (.msl h.length [] 5 0 2) := by
  simp [aConv]
theorem frz_hi (h : Heap) : freezeA (.msl h.length [] 5 0 2) (h ++ [.row 5 [U8 104, U8 105]]) = some (.vsl 5 [U8 104, U8 105] .none, h ++ [.dead]) := by
  simp [freezeA]
def hi : List UInt8 := [104, 105]
theorem hi_bs : Bs (.vsl 5 [U8 104, U8 105] .none) hi := .inr ⟨_, rfl⟩
theorem str_hi : (⟨hi.toArray⟩ : ByteArray).toList = hi := by rw [ByteArray.toList_eq]
theorem lift_hi : liftC (Go.Value.string {data := #[104, 105]}) = .str ⟨hi.toArray⟩ := rfl
end Go.Ax

set_option linter.unusedVariables false
namespace Go.Ax
open Go Go.Proofs
theorem e6 : E0 6 = some ⟨81, [10], bodyOf Try.f6⟩ := by kernel_rfl
end Go.Ax

namespace Go.Ax
open Go Go.Proofs
theorem Two.fresh {b : Nat} {F : Obs} {h h' : Heap} {p r p' r' : Nat} {d v : Dk} (T : Two b F h p r p' r' d v) (k : Keep (From h.length) h h') : Two b F h' p r p' r' d v := (T.alloc k).forget fun _ h => .inl h
def As (x : AV) (acts : List Ac) : Prop := (x = .nils ∧ acts = []) ∨ ∃ vs tk, x = .vsl 95 vs tk ∧ AcsL vs acts
theorem conv8_64' (n : Nat) (hn : n < 256) (h : Heap) : aConv tab 5 3 (.int .u8 n) h = some (.int .i64 n) := by
  simp [aConv]
  exact wrap_i64 (by omega) (by omega)
theorem ext30 (x y z : AV) : aExtract (.tuple [x, y, z]) 0 = some x := rfl
theorem ext31 (x y z : AV) : aExtract (.tuple [x, y, z]) 1 = some y := rfl
end Go.Ax

namespace Go.Ax
open Go Go.Proofs Go.RowKit
section
variable {T : Tab} {t : Ty} {x : AV}
theorem Wf.int_inv {k : IntKind} (h : Wf T t x) (hd : T.d t = .int k) : ∃ n, x = .int k n ∧ (Lit.int k n).wf = true := by
  cases h with
  | int h1 h2 => rw [hd] at h1; cases h1; exact ⟨_, rfl, h2⟩
  | bool h1 => rw [hd] at h1; cases h1
  | str h1 => rw [hd] at h1; cases h1
  | nils h1 => rw [hd] at h1; cases h1
  | vsl h1 => rw [hd] at h1; cases h1
  | struct h1 => rw [hd] at h1; cases h1
  | arr h1 => rw [hd] at h1; cases h1
theorem Wf.str_inv (h : Wf T t x) (hd : T.d t = .str) : ∃ s : ByteArray, x = .str s ∧ s.size ≤ maxLen := by
  cases h with
  | int h1 => rw [hd] at h1; cases h1
  | bool h1 => rw [hd] at h1; cases h1
  | str h1 h2 => exact ⟨_, rfl, h2⟩
  | nils h1 => rw [hd] at h1; cases h1
  | vsl h1 => rw [hd] at h1; cases h1
  | struct h1 => rw [hd] at h1; cases h1
  | arr h1 => rw [hd] at h1; cases h1
theorem Wf.bool_inv (h : Wf T t x) (hd : T.d t = .bool) : ∃ b, x = .bool b := by
  cases h with
  | int h1 => rw [hd] at h1; cases h1
  | bool h1 => exact ⟨_, rfl⟩
  | str h1 => rw [hd] at h1; cases h1
  | nils h1 => rw [hd] at h1; cases h1
  | vsl h1 => rw [hd] at h1; cases h1
  | struct h1 => rw [hd] at h1; cases h1
  | arr h1 => rw [hd] at h1; cases h1
theorem Wf.slice_inv {e : Ty} (h : Wf T t x) (hd : T.d t = .slice e) : x = .nils ∨ ∃ l, x = .vsl (T.und e) l .none ∧ l.length ≤ maxLen ∧ ∀ y ∈ l, Wf T e y := by
  cases h with
  | int h1 => rw [hd] at h1; cases h1
  | bool h1 => rw [hd] at h1; cases h1
  | str h1 => rw [hd] at h1; cases h1
  | nils h1 => exact .inl rfl
  | vsl h1 h2 h3 => rw [hd] at h1; cases h1; exact .inr ⟨_, rfl, h2, h3⟩
  | struct h1 => rw [hd] at h1; cases h1
  | arr h1 => rw [hd] at h1; cases h1
theorem Wf.struct_inv {ts : List Ty} (h : Wf T t x) (hd : T.d t = .struct ts) : ∃ fs, x = .agg (T.und t) fs ∧ fs.length = ts.length ∧ ∀ (i : Nat) (f : Ty) (x : AV), ts[i]? = some f → fs[i]? = some x → Wf T f x := by
  cases h with
  | int h1 => rw [hd] at h1; cases h1
  | bool h1 => rw [hd] at h1; cases h1
  | str h1 => rw [hd] at h1; cases h1
  | nils h1 => rw [hd] at h1; cases h1
  | vsl h1 => rw [hd] at h1; cases h1
  | struct h1 h2 h3 => rw [hd] at h1; cases h1; exact ⟨_, rfl, h2, h3⟩
  | arr h1 => rw [hd] at h1; cases h1
end
theorem law_calls_any {g : FuncId} {x : Fn'} (hg : E0 g = some x) {k : Nat} {args : List AV} {h' : Heap} (hr : exFn C0 E0 k false g args [] = some (.bool true, h')) {w : World} {xs : List Value} (hv : VRL tab (J0 w) args xs) :
    Calls Try.prog g xs.toArray w fun e w' => e = .returned (.bool true) ∧ Below w.heap.size w w' := law_calls hg hr hv
theorem wf_i64 {n : Int} (h : (Lit.int .i64 n).wf = true) : -9223372036854775808 ≤ n ∧ n < 9223372036854775808 := by
  simp only [Lit.wf, Bool.and_eq_true, decide_eq_true_eq] at h
  have h1 : IntKind.i64.min = -9223372036854775808 := by decide
  have h2 : IntKind.i64.max = 9223372036854775807 := by decide
  omega
theorem Wf.u8 {x : AV} (h : Wf tab 5 x) : ∃ n : Nat, n < 256 ∧ x = .int .u8 n := by
  obtain ⟨n, rfl, hn⟩ := h.int_inv rfl
  obtain ⟨a, b⟩ := wf_u8 hn
  exact ⟨n.toNat, by omega, by rw [Int.toNat_of_nonneg a]⟩
theorem Wf.i64 {x : AV} (h : Wf tab 3 x) : ∃ n : Int, (-9223372036854775808 ≤ n ∧ n < 9223372036854775808) ∧ x = .int .i64 n := by
  obtain ⟨n, rfl, hn⟩ := h.int_inv rfl
  exact ⟨n, wf_i64 hn, rfl⟩
theorem Wf.u64 {x : AV} (h : Wf tab 44 x) : ∃ n : Nat, n < 2 ^ 64 ∧ x = .int .u64 n := by
  obtain ⟨n, rfl, hn⟩ := h.int_inv rfl
  obtain ⟨a, b⟩ := wf_u64 hn
  exact ⟨n.toNat, by omega, by rw [Int.toNat_of_nonneg a]⟩
theorem bytes_of : ∀ (l : List AV), (∀ y ∈ l, Wf tab 5 y) → ∃ b : List UInt8, l = b.map U8
  | [], _ => ⟨[], rfl⟩
  | y :: l, h => by
    obtain ⟨b, rfl⟩ := bytes_of l fun z hz => h z (List.mem_cons_of_mem _ hz)
    obtain ⟨n, hn, rfl⟩ := (h y List.mem_cons_self).u8
    refine ⟨UInt8.ofNat n :: b, ?_⟩
    simp only [List.map_cons, U8, List.cons.injEq, and_true]
    congr 2
    rw [UInt8.toNat_ofNat']
    omega
theorem Wf.bytes {x : AV} (h : Wf tab 22 x) : ∃ b : List UInt8, Bs x b ∧ b.length ≤ maxLen := by
  rcases h.slice_inv rfl with rfl | ⟨l, rfl, hl, hy⟩
  · exact ⟨[], .inl ⟨rfl, rfl⟩, by simp⟩
  · obtain ⟨b, rfl⟩ := bytes_of l hy
    exact ⟨b, .inr ⟨_, rfl⟩, by simpa using hl⟩
theorem bsL_of : ∀ (l : List AV), (∀ y ∈ l, Wf tab 22 y) → ∃ ls, BsL l ls ∧ ∀ b ∈ ls, b.length ≤ maxLen
  | [], _ => ⟨[], .nil, by simp⟩
  | y :: l, h => by
    obtain ⟨ls, h1, h2⟩ := bsL_of l fun z hz => h z (List.mem_cons_of_mem _ hz)
    obtain ⟨b, hb, hl⟩ := (h y List.mem_cons_self).bytes
    exact ⟨b :: ls, .cons hb h1, fun c hc => by rcases List.mem_cons.1 hc with rfl | hc; exact hl; exact h2 c hc⟩
theorem Wf.rows {x : AV} (h : Wf tab 30 x) : ∃ ls, Rw x ls ∧ ls.length ≤ maxLen ∧ ∀ b ∈ ls, b.length ≤ maxLen := by
  rcases h.slice_inv rfl with rfl | ⟨l, rfl, hl, hy⟩
  · exact ⟨[], .inl ⟨rfl, rfl⟩, by simp, by simp⟩
  · obtain ⟨ls, h1, h2⟩ := bsL_of l hy
    exact ⟨ls, .inr ⟨_, _, rfl, h1⟩, by rw [← h1.length]; exact hl, h2⟩
theorem acts_of : ∀ (l : List AV), (∀ y ∈ l, Wf tab 96 y) → ∃ acts, AcsL l acts
  | [], _ => ⟨[], .nil⟩
  | y :: l, h => by
    obtain ⟨acts, h1⟩ := acts_of l fun z hz => h z (List.mem_cons_of_mem _ hz)
    obtain ⟨fs, rfl, hl, hf⟩ := (h y List.mem_cons_self).struct_inv (ts := [3, 3, 3, 22, 44]) rfl
    match fs, hl with
    | [a, b, c, d, e], _ =>
      obtain ⟨w, -, rfl⟩ := (hf 0 3 a rfl rfl).i64
      obtain ⟨p, -, rfl⟩ := (hf 1 3 b rfl rfl).i64
      obtain ⟨n, hn, rfl⟩ := (hf 2 3 c rfl rfl).i64
      obtain ⟨bs, hb, -⟩ := (hf 3 22 d rfl rfl).bytes
      obtain ⟨kp, hk, rfl⟩ := (hf 4 44 e rfl rfl).u64
      exact ⟨⟨w, p, n, bs, kp⟩ :: acts, AcsL.cons (a := ⟨w, p, n, bs, kp⟩) hb hk (by show n < 2 ^ 63; omega) h1⟩
theorem Wf.acts {x : AV} (h : Wf tab 48 x) : ∃ acts, As x acts ∧ acts.length < 2 ^ 63 := by
  rcases h.slice_inv rfl with rfl | ⟨l, rfl, hl, hy⟩
  · exact ⟨[], .inl ⟨rfl, rfl⟩, by simp⟩
  · obtain ⟨acts, h1⟩ := acts_of l hy
    have hm : maxLen < 2 ^ 63 := by decide
    exact ⟨acts, .inr ⟨_, _, rfl, h1⟩, by rw [← h1.length]; omega⟩
end Go.Ax

set_option linter.unusedVariables false
namespace Go.Ax
open Go Go.Proofs
noncomputable def O59 (i : Nat) : Array Oper := opsOf i (bodyOf Try.f59)
noncomputable def B59_1 : Code := (.seq (.region 3 (O59 3) false) (.seq (.cond (Go.Operand.tmp 10) .skip (.exit 0)) (.seq (.block 1 (.seq (.region 4 (O59 4) false) (.seq (.region 5 (O59 5) false) (.seq (.region 6 (O59 6) false) (.seq (.seq (.region 7 (O59 7) false) (.cond (Go.Operand.tmp 32) (.exit 1) .skip)) (.seq (.region 8 (O59 8) false) (.seq (.region 9 (O59 9) true) (.cond (Go.Operand.tmp 49) (.region 10 (O59 10) false) .skip)))))))) (.region 11 (O59 11) false))))
theorem s59 : bodyOf Try.f59 = (.seq (.region 0 (O59 0) false) (.seq (.region 1 (O59 1) false) (.seq (.seq (.region 2 (O59 2) false) (.block 0 (.loop B59_1))) (.seq (.region 12 (O59 12) false) .ret)))) := by kernel_rfl
theorem e59 : E0 59 = some ⟨55, [2], bodyOf Try.f59⟩ := by kernel_rfl
theorem r59_0 (x0 : AV) : RR O59 59 55 0 false [(0, x0)] fun _ call md k h =>
 k .normal (st 55 [(0, x0)]) h
 := fun _ _ _ _ _ _ => by kernel_rfl
theorem r59_1 (x0 : AV) : RR O59 59 55 1 false [(0, x0)] fun _ call md k h =>
 k .normal (st 55 [(0, x0), (3, (.int .i64 0))]) h
 := fun _ _ _ _ _ _ => by kernel_rfl
theorem r59_2 (x0 x3 : AV) : RR O59 59 55 2 false [(0, x0), (3, x3)] fun _ call md k h =>
 k .normal (st 55 [(0, x0), (3, x3), (9, (.int .i64 0))]) h
 := fun _ _ _ _ _ _ => by kernel_rfl
theorem r59_3 (x0 x3 x9 : AV) : RR O59 59 55 3 false [(0, x0), (3, x3), (9, x9)] fun _ call md k h =>
 bnd (aBinC tab .lss 3 x9 (.int .i64 2) true) fun v1 =>
 k .normal (st 55 [(0, x0), (3, x3), (9, x9), (10, v1)]) h
 := fun _ _ _ _ _ _ => by kernel_rfl
theorem r59_4 (x0 x3 x9 x10 : AV) : RR O59 59 55 4 false [(0, x0), (3, x3), (9, x9), (10, x10)] fun _ call md k h =>
 k .normal (st 55 [(0, x0), (3, x3), (4, x9), (9, x9)]) h
 := fun _ _ _ _ _ _ => by kernel_rfl
theorem r59_5 (x0 x3 x4 x9 : AV) : RR O59 59 55 5 false [(0, x0), (3, x3), (4, x4), (9, x9)] fun _ call md k h =>
 bnd2 (call md 38 [x0, x4] h) fun v1 h2 =>
 bnd (aExtract v1 0) fun v3 =>
 bnd (aExtract v1 1) fun v4 =>
 k .normal (st 55 [(0, x0), (3, x3), (4, x4), (5, v3), (9, x9)]) h2
 := fun _ _ _ _ _ _ => by kernel_rfl
theorem r59_6 (x0 x3 x4 x5 x9 : AV) : RR O59 59 55 6 false [(0, x0), (3, x3), (4, x4), (5, x5), (9, x9)] fun _ call md k h =>
 bnd2 (call md 72 [x5] h) fun v1 h2 =>
 bnd (aConv tab 105 3 v1 h2) fun v3 =>
 k .normal (st 55 [(0, x0), (3, x3), (4, x4), (5, x5), (7, v3), (9, x9)]) h2
 := fun _ _ _ _ _ _ => by kernel_rfl
theorem r59_7 (x0 x3 x4 x5 x7 x9 : AV) : RR O59 59 55 7 false [(0, x0), (3, x3), (4, x4), (5, x5), (7, x7), (9, x9)] fun _ call md k h =>
 bnd (aBinC tab .lss 3 x7 (.int .i64 1) true) fun v1 =>
 gd false v1 h (fun k => k x7 h) fun v2 h3 =>
 gd false v1 h3 (fun k => bnd (aBinC tab .gtr 3 v2 (.int .i64 2147483647) true) (k · h3)) fun v4 h5 =>
 bnd (aPick v1 (.bool true) v4) fun v6 =>
 gd false v6 h5 (fun k => k x7 h5) fun v7 h8 =>
 gd false v6 h8 (fun k => bnd (aBinC tab .rem 3 v7 (.int .i64 2) true) (k · h8)) fun v9 h10 =>
 gd false v6 h10 (fun k => k x4 h10) fun v11 h12 =>
 gd false v6 h12 (fun k => bnd (aBinC tab .neq 3 v9 v11 false) (k · h12)) fun v13 h14 =>
 bnd (aPick v6 (.bool true) v13) fun v15 =>
 k .normal (st 55 [(0, x0), (3, x3), (5, x5), (7, x7), (9, x9), (32, v15)]) h14
 := fun _ _ _ _ _ _ => by kernel_rfl
theorem r59_8 (x0 x3 x5 x7 x9 x32 : AV) : RR O59 59 55 8 false [(0, x0), (3, x3), (5, x5), (7, x7), (9, x9), (32, x32)] fun _ call md k h =>
 bnd2 (call md 75 [x7] h) fun v1 h2 =>
 k .normal (st 55 [(0, x0), (3, x3), (5, x5), (7, x7), (8, v1), (9, x9)]) h2
 := fun _ _ _ _ _ _ => by kernel_rfl
theorem r59_9 (x0 x3 x5 x7 x8 x9 : AV) : RR O59 59 55 9 true [(0, x0), (3, x3), (5, x5), (7, x7), (8, x8), (9, x9)] fun _ call md k h =>
 bnd (aConv tab 22 9 x8 h) fun v1 =>
 bnd (aLen tab 22 x8) fun v2 =>
 bnd (aSlice tab 22 x5 none (some v2) none) fun v3 =>
 bnd (aConv tab 22 9 v3 h) fun v4 =>
 bnd (aBinC tab .eql 9 v1 v4 false) fun v5 =>
 gd true v5 h (fun k => k x5 h) fun v6 h7 =>
 gd true v5 h7 (fun k => k x8 h7) fun v8 h9 =>
 gd true v5 h9 (fun k => bnd (aLen tab 22 v8) (k · h9)) fun v10 h11 =>
 gd true v5 h11 (fun k => bnd (aSlice tab 22 v6 (some v10) none none) (k · h11)) fun v12 h13 =>
 gd true v5 h13 (fun k => bnd2 (call md 76 [v12] h13) k) fun v14 h15 =>
 bnd (aPick v5 v14 (.bool false)) fun v16 =>
 k .normal (st 55 [(0, x0), (3, x3), (7, x7), (9, x9), (49, v16)]) h15
 := RRd (by kernel_rfl) (by kernel_rfl) (fun _ _ _ _ _ => by kernel_rfl)
theorem r59_10 (x0 x3 x7 x9 x49 : AV) : RR O59 59 55 10 false [(0, x0), (3, x3), (7, x7), (9, x9), (49, x49)] fun _ call md k h =>
 bnd (aMax [x3, x7]) fun v1 =>
 k .normal (st 55 [(0, x0), (3, v1), (9, x9)]) h
 := fun _ _ _ _ _ _ => by kernel_rfl
theorem r59_11a (x0 x3 x5 x7 x9 x32 : AV) : RR O59 59 55 11 false [(0, x0), (3, x3), (5, x5), (7, x7), (9, x9), (32, x32)] fun _ call md k h =>
 bnd (aBinC tab .add 3 x9 (.int .i64 1) true) fun v1 =>
 k .normal (st 55 [(0, x0), (3, x3), (9, v1)]) h
 := fun _ _ _ _ _ _ => by kernel_rfl
theorem r59_11b (x0 x3 x7 x9 x49 : AV) : RR O59 59 55 11 false [(0, x0), (3, x3), (7, x7), (9, x9), (49, x49)] fun _ call md k h =>
 bnd (aBinC tab .add 3 x9 (.int .i64 1) true) fun v1 =>
 k .normal (st 55 [(0, x0), (3, x3), (9, v1)]) h
 := fun _ _ _ _ _ _ => by kernel_rfl
theorem r59_11c (x0 x3 x9 : AV) : RR O59 59 55 11 false [(0, x0), (3, x3), (9, x9)] fun _ call md k h =>
 bnd (aBinC tab .add 3 x9 (.int .i64 1) true) fun v1 =>
 k .normal (st 55 [(0, x0), (3, x3), (9, v1)]) h
 := fun _ _ _ _ _ _ => by kernel_rfl
theorem r59_12 (x0 x3 x9 x10 : AV) : RR O59 59 55 12 false [(0, x0), (3, x3), (9, x9), (10, x10)] fun _ call md k h =>
 k .normal (st 55 [(2, x3)]) h
 := fun _ _ _ _ _ _ => by kernel_rfl
def R59 := And.intro @r59_0 <| And.intro @r59_1 <| And.intro @r59_2 <| And.intro @r59_3 <| And.intro @r59_4 <| And.intro @r59_5 <| And.intro @r59_6 <| And.intro @r59_7 <| And.intro @r59_8 <| And.intro @r59_9 <| And.intro @r59_10 <| And.intro @r59_11a <| And.intro @r59_11b <| And.intro @r59_11c <| @r59_12
end Go.Ax

set_option linter.unusedVariables false
namespace Go.Ax
open Go Go.Proofs
noncomputable def O60 (i : Nat) : Array Oper := opsOf i (bodyOf Try.f60)
theorem s60 : bodyOf Try.f60 = (.seq (.region 0 (O60 0) false) (.seq (.region 1 (O60 1) false) (.seq (.seq (.region 2 (O60 2) false) (.seq (.region 3 (O60 3) false) (.cond (Go.Operand.tmp 16) (.seq (.region 4 (O60 4) false) .ret) .skip))) (.seq (.region 5 (O60 5) false) .ret)))) := by kernel_rfl
theorem e60 : E0 60 = some ⟨20, [2], bodyOf Try.f60⟩ := by kernel_rfl
theorem r60_0 (x0 : AV) : RR O60 60 20 0 false [(0, x0)] fun _ call md k h =>
 k .normal (st 20 [(0, x0)]) h
 := fun _ _ _ _ _ _ => by kernel_rfl
theorem r60_1 (x0 : AV) : RR O60 60 20 1 false [(0, x0)] fun _ call md k h =>
 bnd2 (call md 61 [x0, (.int .i64 1)] h) fun v1 h2 =>
 bnd (aExtract v1 0) fun v3 =>
 bnd (aExtract v1 1) fun v4 =>
 k .normal (st 20 [(0, x0), (3, v3), (4, v4)]) h2
 := fun _ _ _ _ _ _ => by kernel_rfl
theorem r60_2 (x0 x3 x4 : AV) : RR O60 60 20 2 false [(0, x0), (3, x3), (4, x4)] fun _ call md k h =>
 bnd2 (call md 19 [x0, x3, x4] h) fun v1 h2 =>
 k .normal (st 20 [(0, x0), (5, v1)]) h2
 := fun _ _ _ _ _ _ => by kernel_rfl
theorem r60_3 (x0 x5 : AV) : RR O60 60 20 3 false [(0, x0), (5, x5)] fun _ call md k h =>
 bnd (aBinC tab .neq 27 x5 (.int .i64 0) true) fun v1 =>
 k .normal (st 20 [(0, x0), (5, x5), (16, v1)]) h
 := fun _ _ _ _ _ _ => by kernel_rfl
theorem r60_4 (x0 x5 x16 : AV) : RR O60 60 20 4 false [(0, x0), (5, x5), (16, x16)] fun _ call md k h =>
 k .normal (st 20 [(2, x5)]) h
 := fun _ _ _ _ _ _ => by kernel_rfl
theorem r60_5 (x0 x5 x16 : AV) : RR O60 60 20 5 false [(0, x0), (5, x5), (16, x16)] fun _ call md k h =>
 bnd2 (call md 66 [x0, (.int .i64 1)] h) fun v1 h2 =>
 k .normal (st 20 [(2, v1)]) h2
 := fun _ _ _ _ _ _ => by kernel_rfl
def R60 := And.intro @r60_0 <| And.intro @r60_1 <| And.intro @r60_2 <| And.intro @r60_3 <| And.intro @r60_4 <| @r60_5
end Go.Ax

set_option linter.unusedVariables false
namespace Go.Ax
open Go Go.Proofs
noncomputable def O61 (i : Nat) : Array Oper := opsOf i (bodyOf Try.f61)
theorem s61 : bodyOf Try.f61 = (.seq (.region 0 (O61 0) false) (.seq (.region 1 (O61 1) false) (.seq (.region 2 (O61 2) false) (.seq (.region 3 (O61 3) false) .ret)))) := by kernel_rfl
theorem e61 : E0 61 = some ⟨20, [4, 5], bodyOf Try.f61⟩ := by kernel_rfl
theorem r61_0 (x0 x1 : AV) : RR O61 61 20 0 false [(0, x0), (1, x1)] fun _ call md k h =>
 k .normal (st 20 [(0, x0), (1, x1)]) h
 := fun _ _ _ _ _ _ => by kernel_rfl
theorem r61_1 (x0 x1 : AV) : RR O61 61 20 1 false [(0, x0), (1, x1)] fun _ call md k h =>
 bnd2 (call md 46 [x0] h) fun v1 h2 =>
 bnd (aBinC tab .sub 3 v1 (.int .i64 2) true) fun v3 =>
 bnd (aBinC tab .quo 3 v3 (.int .i64 2) true) fun v4 =>
 k .normal (st 20 [(1, x1), (6, v4)]) h2
 := fun _ _ _ _ _ _ => by kernel_rfl
theorem r61_2 (x1 x6 : AV) : RR O61 61 20 2 false [(1, x1), (6, x6)] fun _ call md k h =>
 bnd (aBinC tab .rem 3 x1 (.int .i64 2) true) fun v1 =>
 bnd (aBinC tab .mul 3 v1 x6 false) fun v2 =>
 bnd (aBinC tab .add 3 (.int .i64 2) v2 true) fun v3 =>
 k .normal (st 20 [(4, v3), (6, x6)]) h
 := fun _ _ _ _ _ _ => by kernel_rfl
theorem r61_3 (x4 x6 : AV) : RR O61 61 20 3 false [(4, x4), (6, x6)] fun _ call md k h =>
 bnd (aBinC tab .add 3 x4 x6 false) fun v1 =>
 k .normal (st 20 [(4, x4), (5, v1)]) h
 := fun _ _ _ _ _ _ => by kernel_rfl
def R61 := And.intro @r61_0 <| And.intro @r61_1 <| And.intro @r61_2 <| @r61_3
end Go.Ax

set_option linter.unusedVariables false
namespace Go.Ax
open Go Go.Proofs
noncomputable def O66 (i : Nat) : Array Oper := opsOf i (bodyOf Try.f66)
theorem s66 : bodyOf Try.f66 = (.seq (.region 0 (O66 0) false) (.seq (.seq (.region 1 (O66 1) false) (.seq (.region 2 (O66 2) false) (.cond (Go.Operand.tmp 13) (.seq (.region 3 (O66 3) false) .ret) .skip))) (.seq (.region 4 (O66 4) false) .ret))) := by kernel_rfl
theorem e66 : E0 66 = some ⟨17, [4], bodyOf Try.f66⟩ := by kernel_rfl
theorem r66_0 (x0 x1 : AV) : RR O66 66 17 0 false [(0, x0), (1, x1)] fun _ call md k h =>
 k .normal (st 17 [(0, x0), (1, x1)]) h
 := fun _ _ _ _ _ _ => by kernel_rfl
theorem r66_1 (x0 x1 : AV) : RR O66 66 17 1 false [(0, x0), (1, x1)] fun _ call md k h =>
 bnd (aBinC tab .rem 3 x1 (.int .i64 2) true) fun v1 =>
 bnd2 (call md 75 [x1] h) fun v2 h3 =>
 bnd2 (call md 17 [x0, v1, v2] h3) fun v4 h5 =>
 k .normal (st 17 [(0, x0), (5, v4)]) h5
 := fun _ _ _ _ _ _ => by kernel_rfl
theorem r66_2 (x0 x5 : AV) : RR O66 66 17 2 false [(0, x0), (5, x5)] fun _ call md k h =>
 bnd (aBinC tab .neq 27 x5 (.int .i64 0) true) fun v1 =>
 k .normal (st 17 [(0, x0), (5, x5), (13, v1)]) h
 := fun _ _ _ _ _ _ => by kernel_rfl
theorem r66_3 (x0 x5 x13 : AV) : RR O66 66 17 3 false [(0, x0), (5, x5), (13, x13)] fun _ call md k h =>
 k .normal (st 17 [(4, x5)]) h
 := fun _ _ _ _ _ _ => by kernel_rfl
theorem r66_4 (x0 x5 x13 : AV) : RR O66 66 17 4 false [(0, x0), (5, x5), (13, x13)] fun _ call md k h =>
 bnd2 (call md 18 [x0] h) fun v1 h2 =>
 k .normal (st 17 [(4, v1)]) h2
 := fun _ _ _ _ _ _ => by kernel_rfl
def R66 := And.intro @r66_0 <| And.intro @r66_1 <| And.intro @r66_2 <| And.intro @r66_3 <| @r66_4
end Go.Ax

set_option linter.unusedVariables false
namespace Go.Ax
open Go Go.Proofs
noncomputable def O67 (i : Nat) : Array Oper := opsOf i (bodyOf Try.f67)
theorem s67 : bodyOf Try.f67 = (.seq (.region 0 (O67 0) false) (.seq (.region 1 (O67 1) false) (.seq (.region 2 (O67 2) false) .ret))) := by kernel_rfl
theorem e67 : E0 67 = some ⟨13, [2], bodyOf Try.f67⟩ := by kernel_rfl
theorem r67_0 (x0 : AV) : RR O67 67 13 0 false [(0, x0)] fun _ call md k h =>
 k .normal (st 13 [(0, x0)]) h
 := fun _ _ _ _ _ _ => by kernel_rfl
theorem r67_1 (x0 : AV) : RR O67 67 13 1 false [(0, x0)] fun _ call md k h =>
 bnd2 (call md 62 [x0] h) fun v1 h2 =>
 k .normal (st 13 [(3, v1)]) h2
 := fun _ _ _ _ _ _ => by kernel_rfl
theorem r67_2 (x3 : AV) : RR O67 67 13 2 false [(3, x3)] fun _ call md k h =>
 bnd2 (call md 63 [x3] h) fun v1 h2 =>
 bnd (aConv tab 105 3 v1 h2) fun v3 =>
 bnd2 (call md 62 [v3] h2) fun v4 h5 =>
 bnd2 (aApp tab 22 22 md x3 v4 h5) fun v6 h7 =>
 bnd2 (call md 21 [v6] h7) fun v8 h9 =>
 k .normal (st 13 [(2, v8)]) h9
 := fun _ _ _ _ _ _ => by kernel_rfl
def R67 := And.intro @r67_0 <| And.intro @r67_1 <| @r67_2
end Go.Ax

set_option linter.unusedVariables false
namespace Go.Ax
open Go Go.Proofs
noncomputable def O68 (i : Nat) : Array Oper := opsOf i (bodyOf Try.f68)
theorem s68 : bodyOf Try.f68 = (.seq (.region 0 (O68 0) false) (.seq (.region 1 (O68 1) false) (.seq (.seq (.region 2 (O68 2) false) (.cond (Go.Operand.tmp 16) (.seq (.region 3 (O68 3) false) .ret) .skip)) (.seq (.region 4 (O68 4) false) .ret)))) := by kernel_rfl
theorem e68 : E0 68 = some ⟨24, [4, 5], bodyOf Try.f68⟩ := by kernel_rfl
theorem r68_0 (x0 x1 : AV) : RR O68 68 24 0 false [(0, x0), (1, x1)] fun _ call md k h =>
 k .normal (st 24 [(0, x0), (1, x1)]) h
 := fun _ _ _ _ _ _ => by kernel_rfl
theorem r68_1 (x0 x1 : AV) : RR O68 68 24 1 false [(0, x0), (1, x1)] fun _ call md k h =>
 bnd (aNil x0) fun v1 =>
 bnd (aFieldAddr tab 74 v1 0) fun v2 =>
 bnd (aLoad tab 30 v2 h) fun v3 =>
 bnd (aLen tab 30 v3) fun v4 =>
 bnd (aBinC tab .sub 3 v4 (.int .i64 2) true) fun v5 =>
 bnd (aBinC tab .quo 3 v5 (.int .i64 2) true) fun v6 =>
 k .normal (st 24 [(1, x1), (6, v6)]) h
 := fun _ _ _ _ _ _ => by kernel_rfl
theorem r68_2 (x1 x6 : AV) : RR O68 68 24 2 false [(1, x1), (6, x6)] fun _ call md k h =>
 bnd (aBinC tab .rem 3 x1 (.int .i64 2) true) fun v1 =>
 bnd (aBinC tab .eql 3 v1 (.int .i64 0) true) fun v2 =>
 k .normal (st 24 [(6, x6), (16, v2)]) h
 := fun _ _ _ _ _ _ => by kernel_rfl
theorem r68_3 (x6 x16 : AV) : RR O68 68 24 3 false [(6, x6), (16, x16)] fun _ call md k h =>
 bnd (aBinC tab .add 3 (.int .i64 2) x6 true) fun v1 =>
 k .normal (st 24 [(4, (.int .i64 2)), (5, v1)]) h
 := fun _ _ _ _ _ _ => by kernel_rfl
theorem r68_4 (x6 x16 : AV) : RR O68 68 24 4 false [(6, x6), (16, x16)] fun _ call md k h =>
 bnd (aBinC tab .add 3 (.int .i64 2) x6 true) fun v1 =>
 bnd (aBinC tab .mul 3 (.int .i64 2) x6 true) fun v2 =>
 bnd (aBinC tab .add 3 (.int .i64 2) v2 true) fun v3 =>
 k .normal (st 24 [(4, v1), (5, v3)]) h
 := fun _ _ _ _ _ _ => by kernel_rfl
def R68 := And.intro @r68_0 <| And.intro @r68_1 <| And.intro @r68_2 <| And.intro @r68_3 <| @r68_4
end Go.Ax

set_option linter.unusedVariables false
namespace Go.Ax
open Go Go.Proofs
noncomputable def O75 (i : Nat) : Array Oper := opsOf i (bodyOf Try.f75)
theorem s75 : bodyOf Try.f75 = (.seq (.region 0 (O75 0) false) (.seq (.region 1 (O75 1) false) (.seq (.region 2 (O75 2) false) .ret))) := by kernel_rfl
theorem e75 : E0 75 = some ⟨11, [2], bodyOf Try.f75⟩ := by kernel_rfl
theorem r75_0 (x0 : AV) : RR O75 75 11 0 false [(0, x0)] fun _ call md k h =>
 k .normal (st 11 [(0, x0)]) h
 := fun _ _ _ _ _ _ => by kernel_rfl
theorem r75_1 (x0 : AV) : RR O75 75 11 1 false [(0, x0)] fun _ call md k h =>
 bnd (aConv tab 3 105 x0 h) fun v1 =>
 bnd2 (call md 70 [.nils, v1] h) fun v2 h3 =>
 k .normal (st 11 [(3, v2)]) h3
 := fun _ _ _ _ _ _ => by kernel_rfl
theorem r75_2 (x3 : AV) : RR O75 75 11 2 false [(3, x3)] fun _ call md k h =>
 bnd2 (call md 71 [x3] h) fun v1 h2 =>
 bnd2 (call md 70 [x3, v1] h2) fun v3 h4 =>
 k .normal (st 11 [(2, v3)]) h4
 := fun _ _ _ _ _ _ => by kernel_rfl
def R75 := And.intro @r75_0 <| And.intro @r75_1 <| @r75_2
end Go.Ax

set_option linter.unusedVariables false
namespace Go.Ax
open Go Go.Proofs
noncomputable def O76 (i : Nat) : Array Oper := opsOf i (bodyOf Try.f76)
noncomputable def B76_1 : Code := (.seq (.region 2 (O76 2) false) (.seq (.cond (Go.Operand.tmp 8) .skip (.exit 0)) (.seq (.block 1 (.seq (.region 3 (O76 3) false) (.seq (.region 4 (O76 4) false) (.cond (Go.Operand.tmp 12) (.seq (.region 5 (O76 5) false) .ret) .skip)))) (.region 6 (O76 6) false))))
theorem s76 : bodyOf Try.f76 = (.seq (.region 0 (O76 0) false) (.seq (.seq (.region 1 (O76 1) false) (.block 0 (.loop B76_1))) (.seq (.region 7 (O76 7) false) .ret))) := by kernel_rfl
theorem e76 : E0 76 = some ⟨14, [2], bodyOf Try.f76⟩ := by kernel_rfl
theorem r76_0 (x0 : AV) : RR O76 76 14 0 false [(0, x0)] fun _ call md k h =>
 k .normal (st 14 [(0, x0)]) h
 := fun _ _ _ _ _ _ => by kernel_rfl
theorem r76_1 (x0 : AV) : RR O76 76 14 1 false [(0, x0)] fun _ call md k h =>
 bnd (aLen tab 22 x0) fun v1 =>
 k .normal (st 14 [(5, x0), (6, v1), (7, (.int .i64 0))]) h
 := fun _ _ _ _ _ _ => by kernel_rfl
theorem r76_2 (x5 x6 x7 : AV) : RR O76 76 14 2 false [(5, x5), (6, x6), (7, x7)] fun _ call md k h =>
 bnd (aBinC tab .lss 3 x7 x6 false) fun v1 =>
 k .normal (st 14 [(5, x5), (6, x6), (7, x7), (8, v1)]) h
 := fun _ _ _ _ _ _ => by kernel_rfl
theorem r76_3 (x5 x6 x7 x8 : AV) : RR O76 76 14 3 false [(5, x5), (6, x6), (7, x7), (8, x8)] fun _ call md k h =>
 bnd (aIndexAddr tab 22 x5 x7) fun v1 =>
 bnd (aLoad tab 5 v1 h) fun v2 =>
 k .normal (st 14 [(4, v2), (5, x5), (6, x6), (7, x7)]) h
 := fun _ _ _ _ _ _ => by kernel_rfl
theorem r76_4 (x4 x5 x6 x7 : AV) : RR O76 76 14 4 false [(4, x4), (5, x5), (6, x6), (7, x7)] fun _ call md k h =>
 bnd (aBinC tab .neq 5 x4 (.int .u8 0) true) fun v1 =>
 k .normal (st 14 [(5, x5), (6, x6), (7, x7), (12, v1)]) h
 := fun _ _ _ _ _ _ => by kernel_rfl
theorem r76_5 (x5 x6 x7 x12 : AV) : RR O76 76 14 5 false [(5, x5), (6, x6), (7, x7), (12, x12)] fun _ call md k h =>
 k .normal (st 14 [(2, (.bool false))]) h
 := fun _ _ _ _ _ _ => by kernel_rfl
theorem r76_6 (x5 x6 x7 x12 : AV) : RR O76 76 14 6 false [(5, x5), (6, x6), (7, x7), (12, x12)] fun _ call md k h =>
 bnd (aBinC tab .add 3 x7 (.int .i64 1) true) fun v1 =>
 k .normal (st 14 [(5, x5), (6, x6), (7, v1)]) h
 := fun _ _ _ _ _ _ => by kernel_rfl
theorem r76_7 (x5 x6 x7 x8 : AV) : RR O76 76 14 7 false [(5, x5), (6, x6), (7, x7), (8, x8)] fun _ call md k h =>
 k .normal (st 14 [(2, (.bool true))]) h
 := fun _ _ _ _ _ _ => by kernel_rfl
def R76 := And.intro @r76_0 <| And.intro @r76_1 <| And.intro @r76_2 <| And.intro @r76_3 <| And.intro @r76_4 <| And.intro @r76_5 <| And.intro @r76_6 <| @r76_7
end Go.Ax

namespace Go.Ax
open Go Go.Proofs
def halfOf (n : Nat) : Nat := (n - 2) / 2
def fromOf (n gen : Nat) : Nat := 2 + gen % 2 * halfOf n
def toOf (n gen : Nat) : Nat := fromOf n gen + halfOf n
theorem mod2_cases (g : Nat) : g % 2 = 0 ∨ g % 2 = 1 := Nat.mod_two_eq_zero_or_one g
theorem toOf_le (n gen : Nat) (hn : 2 ≤ n) : toOf n gen ≤ n := by
  unfold toOf fromOf halfOf
  rcases mod2_cases gen with h | h <;> rw [h] <;> omega
theorem rem2_i64 (g : Nat) (hg : g < 2 ^ 62) (c : Bool) : aBinC tab .rem 3 (.int .i64 g) (.int .i64 2) c = some (.int .i64 ((g % 2 : Nat) : Int)) := by
  simp [aBinC, aBin, Go.binOp, Op.intDiv, ofPure, pure]
  rw [Int.tmod_eq_emod_of_nonneg (by omega)]
theorem quo2_i64 (g : Nat) (hg : g < 2 ^ 62) (c : Bool) : aBinC tab .quo 3 (.int .i64 g) (.int .i64 2) c = some (.int .i64 ((g / 2 : Nat) : Int)) := by
  simp [aBinC, aBin, Go.binOp, Op.intDiv, ofPure, pure]
  rw [wrap_i64 (by omega) (by omega)]
theorem bounds_ok {S : Obs} {p r : Nat} {h : Heap} {d : Dk} (D : Dsk S h p r d) (hn : 2 ≤ d.lasts.length) (gen : Nat) (hg : gen < 2 ^ 62) (md : Bool) (k : Nat) :
    exFn C0 E0 (k + 2) md 61 [dp p, .int .i64 gen] h = some (.tuple [.int .i64 (fromOf d.lasts.length gen : Nat), .int .i64 (toOf d.lasts.length gen : Nat)], h) := by
  have hfew := D.few
  refine exFn_of e61 ?_
  rw [fnK, show ([dp p, .int .i64 gen] ++ List.replicate (20 - [dp p, AV.int .i64 gen].length) AV.undef) = st 20 [(0, dp p), (1, .int .i64 gen)] from rfl, s61]
  have w1 : IntKind.i64.wrap (((d.lasts.length : Nat) : Int) - 2) = ((d.lasts.length - 2 : Nat) : Int) := by rw [wrap_i64] <;> omega
  have w2 : IntKind.i64.wrap (((gen % 2 : Nat) : Int) * (((d.lasts.length - 2) / 2 : Nat) : Int)) = ((gen % 2 * halfOf d.lasts.length : Nat) : Int) := by
    unfold halfOf
    rcases mod2_cases gen with h | h <;> rw [h, wrap_i64] <;> omega
  have hh : halfOf d.lasts.length ≤ 1024 := by unfold halfOf; omega
  have hg2 : gen % 2 * halfOf d.lasts.length ≤ 1024 := by rcases mod2_cases gen with h | h <;> rw [h] <;> omega
  have w3 : IntKind.i64.wrap (2 + ((gen % 2 * halfOf d.lasts.length : Nat) : Int)) = (fromOf d.lasts.length gen : Nat) := by unfold fromOf; rw [wrap_i64] <;> omega
  have w4 : IntKind.i64.wrap ((fromOf d.lasts.length gen : Nat) + (((d.lasts.length - 2) / 2 : Nat) : Int)) = (toOf d.lasts.length gen : Nat) := by
    rw [show (d.lasts.length - 2) / 2 = halfOf d.lasts.length from rfl, wrap_i64]
    · rfl
    · omega
    · unfold fromOf; omega
  simp -implicitDefEqProofs only [↓RK, RK, ↓RB, RB, decide_true, decide_false, STs, Nat.reduceBEq, ↓reduceIte, Nat.reduceLT, ↓R61, R61, len_ok D, bin_sub, w1, quo2_i64 _ (show d.lasts.length - 2 < 2 ^ 62 by omega), rem2_i64 gen hg, bin_mul, w2, bin_add, w3, w4]
theorem rbounds_ok {S : Obs} {p r : Nat} {h : Heap} {d : Dk} (D : Rsk S h p r d) (hn : 2 ≤ d.lasts.length) (gen : Nat) (hg : gen < 2 ^ 62) (md : Bool) (k : Nat) :
    exFn C0 E0 (k + 1) md 68 [rp p, .int .i64 gen] h = some (.tuple [.int .i64 (fromOf d.lasts.length gen : Nat), .int .i64 (toOf d.lasts.length gen : Nat)], h) := by
  have hfew := D.few
  obtain ⟨x, vs, hx, -, -⟩ := D.var
  refine exFn_of e68 ?_
  rw [fnK, show ([rp p, .int .i64 gen] ++ List.replicate (24 - [rp p, AV.int .i64 gen].length) AV.undef) = st 24 [(0, rp p), (1, .int .i64 gen)] from rfl, s68]
  have w1 : IntKind.i64.wrap (((d.lasts.length : Nat) : Int) - 2) = ((d.lasts.length - 2 : Nat) : Int) := by rw [wrap_i64] <;> omega
  have hh : halfOf d.lasts.length ≤ 1024 := by unfold halfOf; omega
  have w2 : IntKind.i64.wrap (2 + (((d.lasts.length - 2) / 2 : Nat) : Int)) = ((2 + halfOf d.lasts.length : Nat) : Int) := by unfold halfOf; rw [wrap_i64] <;> omega
  have w3 : IntKind.i64.wrap (2 * (((d.lasts.length - 2) / 2 : Nat) : Int)) = ((2 * halfOf d.lasts.length : Nat) : Int) := by unfold halfOf; rw [wrap_i64] <;> omega
  have w4 : IntKind.i64.wrap (2 + ((2 * halfOf d.lasts.length : Nat) : Int)) = ((2 + 2 * halfOf d.lasts.length : Nat) : Int) := by rw [wrap_i64] <;> omega
  rcases mod2_cases gen with hm | hm
  · have e1 : decide (((gen % 2 : Nat) : Int) = 0) = true := decide_eq_true (by omega)
    have f1 : fromOf d.lasts.length gen = 2 := by unfold fromOf; rw [hm]; omega
    have f2 : toOf d.lasts.length gen = 2 + halfOf d.lasts.length := by unfold toOf; rw [f1]
    rw [f1, f2]
    simp -implicitDefEqProofs only [↓RK, RK, ↓RB, RB, decide_true, decide_false, STs, Nat.reduceBEq, ↓reduceIte, Nat.reduceLT, ↓R68, R68, rp_chk, rpf0, rld0 hx, lens, bin_sub, w1, quo2_i64 _ (show d.lasts.length - 2 < 2 ^ 62 by omega), rem2_i64 gen hg, bin_eql, e1, bin_add, w2]
    rfl
  · have e1 : decide (((gen % 2 : Nat) : Int) = 0) = false := decide_eq_false (by omega)
    have f1 : fromOf d.lasts.length gen = 2 + halfOf d.lasts.length := by unfold fromOf; rw [hm]; omega
    have f2 : toOf d.lasts.length gen = 2 + 2 * halfOf d.lasts.length := by unfold toOf; rw [f1]; omega
    rw [f1, f2]
    simp -implicitDefEqProofs only [↓RK, RK, ↓RB, RB, decide_true, decide_false, STs, Nat.reduceBEq, ↓reduceIte, Nat.reduceLT, ↓R68, R68, rp_chk, rpf0, rld0 hx, lens, bin_sub, w1, quo2_i64 _ (show d.lasts.length - 2 < 2 ^ 62 by omega), rem2_i64 gen hg, bin_eql, e1, bin_add, w2, bin_mul, w3, w4]
def superOf (gen : Nat) : List UInt8 := be4 (BitVec.ofNat 32 gen) ++ be4 (crc (be4 (BitVec.ofNat 32 gen)))
theorem superOf_length (gen : Nat) : (superOf gen).length = 8 := by simp [superOf, be4]
theorem super_ok (gen : Nat) (h : Heap) (k : Nat) (hk : 40 < k) :
    ∃ x h', exFn C0 E0 (k + 1) false 75 [.int .i64 gen] h = some (x, h') ∧ ApB (From h.length) h' x (superOf gen) ∧ Keep (From h.length) h h' := by
  obtain ⟨k, rfl⟩ : ∃ j, k = j + 1 := ⟨k - 1, by omega⟩
  have up := Up.fresh h
  have cv := conv_64_32 h gen
  rw [ofInt_nat] at cv
  obtain ⟨x1, h1, p1, a1, k1⟩ := put_ok (S := From h.length) (h := h) (x := .nils) (l := []) (.inl ⟨rfl, rfl⟩) up (by simp) (BitVec.ofNat 32 gen) k
  have sm := sum_of (l := be4 (BitVec.ofNat 32 gen)) a1.bs (by simp [be4]) false h1 (k + 1) (by simp [be4]; omega)
  obtain ⟨x2, h2, p2, a2, k2⟩ := put_ok (l := be4 (BitVec.ofNat 32 gen)) a1 (up.keep k1) (by simp [be4]) (crc (be4 (BitVec.ofNat 32 gen))) k
  refine ⟨x2, h2, exFn_of e75 ?_, a2, k1.trans k2⟩
  rw [fnK, show ([AV.int .i64 gen] ++ List.replicate (11 - [AV.int .i64 gen].length) AV.undef) = st 11 [(0, .int .i64 gen)] from rfl, s75]
  simp -implicitDefEqProofs only [↓RK, RK, ↓RB, RB, decide_true, decide_false, STs, Nat.reduceBEq, ↓reduceIte, Nat.reduceLT, ↓R75, R75, cv, p1, sm, p2]
theorem rsuper_ok (gen : Nat) (h : Heap) (k : Nat) (hk : 60 < k) :
    ∃ x h', exFn C0 E0 (k + 1) false 67 [.int .i64 gen] h = some (x, h') ∧ Bs x (pad (superOf gen)) ∧ Keep (From h.length) h h' := by
  obtain ⟨k, rfl⟩ : ∃ j, k = j + 1 := ⟨k - 1, by omega⟩
  have up := Up.fresh h
  have q1 := four_ok (gen : Int) false h k
  rw [ofInt_nat] at q1
  have a0 : ApB (From h.length) h (.vsl 5 ((be4 (BitVec.ofNat 32 gen)).map U8) .exact) (be4 (BitVec.ofNat 32 gen)) := .inr ⟨_, rfl, .inl rfl⟩
  have q3 := rcrc_ok a0.bs (by simp [be4]) false h k (by simp [be4]; omega)
  have q4 := four_ok ((crc (be4 (BitVec.ofNat 32 gen))).toNat : Int) false h k
  rw [ofInt_toNat32] at q4
  have by4 : By (fun _ => False) h (.vsl 5 ((be4 (crc (be4 (BitVec.ofNat 32 gen)))).map U8) .exact) (be4 (crc (be4 (BitVec.ofNat 32 gen)))) := .inl (.inr ⟨_, rfl⟩)
  obtain ⟨x1, h1, p1, ax1, k1, -⟩ := ApB.app (l := be4 (BitVec.ofNat 32 gen)) a0 up (be4 (crc (be4 (BitVec.ofNat 32 gen)))) (by simp [be4])
  have ax1' : ApB (From h.length) h1 x1 (superOf gen) := ax1
  obtain ⟨h2, f1, f2⟩ := fill_ok (h := h1) (U := fun _ => False) (.inl ax1'.bs) (by rw [superOf_length]; omega) k
  refine ⟨.vsl 5 ((pad (superOf gen)).map U8) .none, h2, exFn_of e67 ?_, .inr ⟨_, rfl⟩, k1.fresh f2 up⟩
  rw [fnK, show ([AV.int .i64 gen] ++ List.replicate (13 - [AV.int .i64 gen].length) AV.undef) = st 13 [(0, .int .i64 gen)] from rfl, s67]
  simp -implicitDefEqProofs only [↓RK, RK, ↓RB, RB, decide_true, decide_false, STs, Nat.reduceBEq, ↓reduceIte, Nat.reduceLT, ↓R67, R67, q1, q3, conv_32_64, q4, app22s by4.src, p1, f1]
theorem plain_loop {x : AV} {l : List UInt8} (hx : Bs x l) (hl : l.length < 2 ^ 62) (call : CallF) (md : Bool) (N : Nat) (h : Heap) (K : Ex → List AV → Heap → Option (AV × Heap)) :
    ∀ (m i n : Nat), i + m = l.length → m < n →
    loopK (fun next => runK C0 call md 76 N B76_1 (seqE next K)) n (st 14 [(5, x), (6, .int .i64 l.length), (7, .int .i64 i)]) h =
      if (l.drop i).all (· == 0) then K (.exit 0) (st 14 [(5, x), (6, .int .i64 l.length), (7, .int .i64 l.length), (8, .bool false)]) h else K .ret (st 14 [(2, .bool false)]) h := by
  intro m
  induction m with
  | zero =>
    intro i n hi hn
    obtain ⟨n, rfl⟩ : ∃ j, n = j + 1 := ⟨n - 1, by omega⟩
    obtain rfl : i = l.length := by omega
    rw [List.drop_length, loopK_succ]
    generalize loopK (_ : (List AV → Heap → Option (AV × Heap)) → List AV → Heap → Option (AV × Heap)) n = Lp
    have e : decide (((l.length : Nat) : Int) < (l.length : Nat)) = false := decide_eq_false (by omega)
    simp -implicitDefEqProofs only [B76_1, ↓RK, RK, ↓RB, RB, decide_true, decide_false, STs, Nat.reduceBEq, ↓reduceIte, Nat.reduceLT, ↓R76, R76, bin_lss, e, List.all_nil]
  | succ m ih =>
    intro i n hi hn
    obtain ⟨n, rfl⟩ : ∃ j, n = j + 1 := ⟨n - 1, by omega⟩
    have e : decide (((i : Nat) : Int) < (l.length : Nat)) = true := decide_eq_true (by omega)
    have wr : IntKind.i64.wrap ((i : Int) + 1) = ((i + 1 : Nat) : Int) := by rw [wrap_i64] <;> omega
    obtain ⟨a, ha⟩ : ∃ a, l[i]? = some a := ⟨l[i]'(by omega), List.getElem?_eq_getElem _⟩
    have ih' := ih (i + 1) n (by omega) (by omega)
    rw [drop_get ha, loopK_succ]
    generalize loopK (_ : (List AV → Heap → Option (AV × Heap)) → List AV → Heap → Option (AV × Heap)) n = Lp at *
    have z0 : AV.int .u8 0 = U8 0 := rfl
    by_cases h0 : a = 0
    · have e1 : decide (a ≠ 0) = false := decide_eq_false fun h => h h0
      have e2 : (a :: l.drop (i + 1)).all (· == 0) = (l.drop (i + 1)).all (· == 0) := by simp [h0]
      rw [e2, ← ih']
      simp -implicitDefEqProofs only [B76_1, ↓RK, RK, ↓RB, RB, decide_true, decide_false, STs, Nat.reduceBEq, ↓reduceIte, Nat.reduceLT, ↓R76, R76, bin_lss, e, hx.idx ha, load5, z0, u8_neq, e1, bin_add, wr]
    · have e1 : decide (a ≠ 0) = true := decide_eq_true h0
      have e2 : (a :: l.drop (i + 1)).all (· == 0) = false := by simp [h0]
      rw [e2, if_neg Bool.false_ne_true]
      simp -implicitDefEqProofs only [B76_1, ↓RK, RK, ↓RB, RB, decide_true, decide_false, STs, Nat.reduceBEq, ↓reduceIte, Nat.reduceLT, ↓R76, R76, bin_lss, e, hx.idx ha, load5, z0, u8_neq, e1]
theorem plain_ok {x : AV} {l : List UInt8} (hx : Bs x l) (hl : l.length < 2 ^ 62) (md : Bool) (h : Heap) (k : Nat) (hk : l.length + 1 < k) : exFn C0 E0 (k + 1) md 76 [x] h = some (.bool (l.all (· == 0)), h) := by
  refine exFn_of e76 ?_
  rw [fnK, show ([x] ++ List.replicate (14 - [x].length) AV.undef) = st 14 [(0, x)] from rfl, s76]
  simp -implicitDefEqProofs only [↓RK, RK, ↓RB, RB, decide_true, decide_false, STs, Nat.reduceBEq, ↓reduceIte, Nat.reduceLT, ↓R76, R76, hx.len]
  rw [show AV.int .i64 0 = .int .i64 ((0 : Nat) : Int) from rfl, plain_loop hx hl _ md k h _ l.length 0 k (by omega) (by omega), List.drop_zero]
  cases l.all (· == 0)
  · rw [if_neg Bool.false_ne_true]
    simp -implicitDefEqProofs only [↓RK, RK, ↓RB, RB, decide_true, decide_false, STs, Nat.reduceBEq, ↓reduceIte, Nat.reduceLT, ↓R76, R76]
  · rw [if_pos rfl]
    simp -implicitDefEqProofs only [↓RK, RK, ↓RB, RB, decide_true, decide_false, STs, Nat.reduceBEq, ↓reduceIte, Nat.reduceLT, ↓R76, R76]
def superGen (c : List UInt8) (n : Nat) : Nat :=
  let g := (get4 c).toNat
  if (1 ≤ g ∧ g ≤ 2147483647 ∧ g % 2 = n) ∧ superOf g = c.take 8 ∧ (c.drop 8).all (· == 0) = true then g else 0
def newest (now : List (List UInt8)) : Nat := max (superGen ((now[0]?).getD []) 0) (superGen ((now[1]?).getD []) 1)
theorem superGen_lt (c : List UInt8) (n : Nat) : superGen c n ≤ 2147483647 := by
  unfold superGen
  simp only
  split
  · rename_i h; exact h.1.2.1
  · omega
theorem newest_lt (now : List (List UInt8)) : newest now ≤ 2147483647 := by
  unfold newest
  have h1 := superGen_lt ((now[0]?).getD []) 0
  have h2 := superGen_lt ((now[1]?).getD []) 1
  omega
end Go.Ax

namespace Go.Ax
open Go Go.Proofs
theorem newest_step {S : Obs} {p r : Nat} {d : Dk} (hn : 2 ≤ d.lasts.length) (hl : d.loose.length < 2 ^ 30) (N : Nat) (hN : d.loose.length + 100 < N) (i best : Nat) (hi : i < 2) (n : Nat) (h : Heap) (D : Dsk S h p r d) :
    ∃ h', (∀ K : Ex → List AV → Heap → Option (AV × Heap), loopK (fun next => runK C0 (exFn C0 E0 (N + 1)) false 59 (N + 1) B59_1 (seqE next K)) (n + 1) (st 55 [(0, dp p), (3, .int .i64 best), (9, .int .i64 i)]) h =
      loopK (fun next => runK C0 (exFn C0 E0 (N + 1)) false 59 (N + 1) B59_1 (seqE next K)) n (st 55 [(0, dp p), (3, .int .i64 (max best (superGen ((d.now[i]?).getD []) i) : Nat)), (9, .int .i64 ((i + 1 : Nat) : Int))]) h') ∧ Keep (From h.length) h h' := by
  have e : decide (((i : Nat) : Int) < 2) = true := decide_eq_true (by omega)
  have wr : IntKind.i64.wrap ((i : Int) + 1) = ((i + 1 : Nat) : Int) := by rw [wrap_i64] <;> omega
  obtain ⟨y, h1, r1, r2, r3⟩ := read_ok D hl (i : Int) N (by omega)
  have hlt : i < d.now.length := by rw [D.now_length]; omega
  have hrd : d.read (i : Int) = (d.now[i], 0) := by
    unfold Dk.read
    rw [if_pos ⟨by omega, by rw [D.now_length] at hlt; omega⟩, Int.toNat_natCast, List.getElem?_eq_getElem hlt]
    rfl
  rw [hrd] at r1 r2
  have hlen := D.now_cells _ (List.getElem_mem hlt)
  rw [List.getElem?_eq_getElem hlt, Option.getD_some]
  generalize d.now[i] = c at *
  have by1 : Bs y c := r2.bs
  have g1 := get_ok by1 (by omega) (by omega) false h1 (N + 1) (by omega)
  have cv := conv_32_64 h1 (get4 c)
  have hg : (get4 c).toNat < 2 ^ 32 := (get4 c).isLt
  have hsg : superGen c i = if (1 ≤ (get4 c).toNat ∧ (get4 c).toNat ≤ 2147483647 ∧ (get4 c).toNat % 2 = i) ∧ superOf (get4 c).toNat = c.take 8 ∧ (c.drop 8).all (· == 0) = true then (get4 c).toNat else 0 := rfl
  generalize (get4 c).toNat = g at *
  have rm := rem2_i64 g (by omega) true
  by_cases q1 : g < 1
  · have e1 : decide ((g : Int) < 1) = true := decide_eq_true (by omega)
    have hz : superGen c i = 0 := by rw [hsg, if_neg]; omega
    refine ⟨h1, fun K => ?_, r3⟩
    rw [hz, Nat.max_zero, loopK_succ]
    generalize loopK (_ : (List AV → Heap → Option (AV × Heap)) → List AV → Heap → Option (AV × Heap)) n = Lp
    simp -implicitDefEqProofs only [B59_1, ↓RK, RK, ↓RB, RB, decide_true, decide_false, STs, Nat.reduceBEq, ↓reduceIte, Nat.reduceLT, ↓R59, R59, bin_lss, e, r1, ext0, ext1, g1, cv, e1, bin_add, wr]
  have e1 : decide ((g : Int) < 1) = false := decide_eq_false (by omega)
  by_cases q2 : 2147483647 < g
  · have e2 : decide ((2147483647 : Int) < (g : Int)) = true := decide_eq_true (by omega)
    have hz : superGen c i = 0 := by rw [hsg, if_neg]; omega
    refine ⟨h1, fun K => ?_, r3⟩
    rw [hz, Nat.max_zero, loopK_succ]
    generalize loopK (_ : (List AV → Heap → Option (AV × Heap)) → List AV → Heap → Option (AV × Heap)) n = Lp
    simp -implicitDefEqProofs only [B59_1, ↓RK, RK, ↓RB, RB, decide_true, decide_false, STs, Nat.reduceBEq, ↓reduceIte, Nat.reduceLT, ↓R59, R59, bin_lss, e, r1, ext0, ext1, g1, cv, e1, bin_gtr, e2, bin_add, wr]
  have e2 : decide ((2147483647 : Int) < (g : Int)) = false := decide_eq_false (by omega)
  by_cases q3 : g % 2 = i
  case neg =>
    have e3 : decide (((g % 2 : Nat) : Int) ≠ (i : Int)) = true := decide_eq_true (by omega)
    have hz : superGen c i = 0 := by rw [hsg, if_neg]; rintro ⟨⟨-, -, h⟩, -⟩; exact q3 h
    refine ⟨h1, fun K => ?_, r3⟩
    rw [hz, Nat.max_zero, loopK_succ]
    generalize loopK (_ : (List AV → Heap → Option (AV × Heap)) → List AV → Heap → Option (AV × Heap)) n = Lp
    simp -implicitDefEqProofs only [B59_1, ↓RK, RK, ↓RB, RB, decide_true, decide_false, STs, Nat.reduceBEq, ↓reduceIte, Nat.reduceLT, ↓R59, R59, bin_lss, e, r1, ext0, ext1, g1, cv, e1, bin_gtr, e2, rm, bin_neq, e3, bin_add, wr]
  have e3 : decide (((g % 2 : Nat) : Int) ≠ (i : Int)) = false := decide_eq_false (by omega)
  obtain ⟨x2, h2, s1, s2, s3⟩ := super_ok g h1 N (by omega)
  have len2 := s2.bs.len
  rw [superOf_length] at len2
  obtain ⟨z1, sz1, bz1⟩ := by1.to 8 (by omega)
  obtain ⟨z2, sz2, bz2⟩ := by1.from 8 (by omega)
  simp only [Int.cast_ofNat_Int] at sz1 sz2 len2
  have t1 := s2.bs.str h2
  have t2 := bz1.str h2
  have pk := plain_ok bz2 (by simp; omega) false h2 N (by simp; omega)
  have kk := r3.fresh s3 (Up.fresh h)
  by_cases q4 : superOf g = c.take 8
  case neg =>
    have hz : superGen c i = 0 := by rw [hsg, if_neg]; rintro ⟨-, h, -⟩; exact q4 h
    have e4 : ((⟨(superOf g).toArray⟩ : ByteArray).toList == (⟨(c.take 8).toArray⟩ : ByteArray).toList) = false := by
      rw [toList_mk, toList_mk]; simpa using q4
    refine ⟨h2, fun K => ?_, kk⟩
    rw [hz, Nat.max_zero, loopK_succ]
    generalize loopK (_ : (List AV → Heap → Option (AV × Heap)) → List AV → Heap → Option (AV × Heap)) n = Lp
    simp -implicitDefEqProofs only [B59_1, ↓RK, RK, ↓RB, RB, decide_true, decide_false, STs, Nat.reduceBEq, ↓reduceIte, Nat.reduceLT, ↓R59, R59, bin_lss, e, r1, ext0, ext1, g1, cv, e1, bin_gtr, e2, rm, bin_neq, e3, s1, len2, sz1, t1, t2, str_eql, e4, bin_add, wr]
  have e4 : ((⟨(superOf g).toArray⟩ : ByteArray).toList == (⟨(c.take 8).toArray⟩ : ByteArray).toList) = true := by
    rw [toList_mk, toList_mk]; simpa using q4
  cases q5 : (c.drop 8).all (· == 0)
  · have hz : superGen c i = 0 := by rw [hsg, if_neg]; rintro ⟨-, -, h⟩; rw [q5] at h; cases h
    rw [q5] at pk
    refine ⟨h2, fun K => ?_, kk⟩
    rw [hz, Nat.max_zero, loopK_succ]
    generalize loopK (_ : (List AV → Heap → Option (AV × Heap)) → List AV → Heap → Option (AV × Heap)) n = Lp
    simp -implicitDefEqProofs only [B59_1, ↓RK, RK, ↓RB, RB, decide_true, decide_false, STs, Nat.reduceBEq, ↓reduceIte, Nat.reduceLT, ↓R59, R59, bin_lss, e, r1, ext0, ext1, g1, cv, e1, bin_gtr, e2, rm, bin_neq, e3, s1, len2, sz1, t1, t2, str_eql, e4, sz2, pk, bin_add, wr]
  · have hz : superGen c i = g := by rw [hsg, if_pos ⟨⟨by omega, by omega, q3⟩, q4, q5⟩]
    rw [q5] at pk
    have mx : (if (best : Int) < (g : Int) then (g : Int) else (best : Int)) = (max best g : Nat) := by split <;> omega
    have mx2 := max2_i64 (best : Int) (g : Int)
    rw [mx] at mx2
    refine ⟨h2, fun K => ?_, kk⟩
    rw [hz, loopK_succ]
    generalize loopK (_ : (List AV → Heap → Option (AV × Heap)) → List AV → Heap → Option (AV × Heap)) n = Lp
    simp -implicitDefEqProofs only [B59_1, ↓RK, RK, ↓RB, RB, decide_true, decide_false, STs, Nat.reduceBEq, ↓reduceIte, Nat.reduceLT, ↓R59, R59, bin_lss, e, r1, ext0, ext1, g1, cv, e1, bin_gtr, e2, rm, bin_neq, e3, s1, len2, sz1, t1, t2, str_eql, e4, sz2, pk, mx2, bin_add, wr]
end Go.Ax

namespace Go.Ax
open Go Go.Proofs
theorem newest_ok {S : Obs} {p r : Nat} {h : Heap} {d : Dk} (D : Dsk S h p r d) (hn : 2 ≤ d.lasts.length) (hl : d.loose.length < 2 ^ 30) (k : Nat) (hk : d.loose.length + 110 < k) :
    ∃ h', exFn C0 E0 (k + 1) false 59 [dp p] h = some (.int .i64 (newest d.now : Nat), h') ∧ Keep (From h.length) h h' := by
  obtain ⟨k, rfl⟩ : ∃ j, k = j + 3 := ⟨k - 3, by omega⟩
  obtain ⟨h1, g1, k1⟩ := newest_step hn hl (k + 2) (by omega) 0 0 (by omega) (k + 2) h D
  obtain ⟨h2, g2, k2⟩ := newest_step hn hl (k + 2) (by omega) 1 (max 0 (superGen ((d.now[0]?).getD []) 0)) (by omega) (k + 1) h1 (D.fresh k1)
  refine ⟨h2, exFn_of e59 ?_, k1.fresh k2 (Up.fresh h)⟩
  rw [fnK, show ([dp p] ++ List.replicate (55 - [dp p].length) AV.undef) = st 55 [(0, dp p)] from rfl, s59]
  simp -implicitDefEqProofs only [↓RK, RK, ↓RB, RB, decide_true, decide_false, STs, Nat.reduceBEq, ↓reduceIte, Nat.reduceLT, r59_0, r59_1, r59_2]
  rw [show AV.int .i64 0 = .int .i64 ((0 : Nat) : Int) from rfl, g1, g2, loopK_succ]
  generalize loopK (_ : (List AV → Heap → Option (AV × Heap)) → List AV → Heap → Option (AV × Heap)) k = Lp
  have e : decide (((1 + 1 : Nat) : Int) < 2) = false := by decide
  have hnw : newest d.now = max (max 0 (superGen ((d.now[0]?).getD []) 0)) (superGen ((d.now[1]?).getD []) 1) := by unfold newest; omega
  rw [hnw]
  simp -implicitDefEqProofs only [B59_1, ↓RK, RK, ↓RB, RB, decide_true, decide_false, STs, Nat.reduceBEq, ↓reduceIte, Nat.reduceLT, ↓R59, R59, bin_lss, e]
def Dk.install (d : Dk) (gen : Nat) : Int × Dk :=
  let w := d.write ((gen % 2 : Nat) : Int) (superOf gen)
  if w.1 ≠ 0 then w else w.2.flush
theorem install_ok {S : Obs} {p r : Nat} {h : Heap} {d : Dk} (D : Dsk S h p r d) (up : Up S h) (hl : d.loose.length < 2 ^ 28) (hf : d.fuse < 2 ^ 63) (gen : Nat) (hg : gen < 2 ^ 62) (k : Nat) (hk : d.loose.length + 100 < k) :
    ∃ h', exFn C0 E0 (k + 1) false 66 [dp p, .int .i64 gen] h = some (.int .i64 (d.install gen).1, h') ∧ Dsk S h' p r (d.install gen).2 ∧ Keep S h h' := by
  obtain ⟨k, rfl⟩ : ∃ j, k = j + 4 := ⟨k - 4, by omega⟩
  obtain ⟨x, h1, s1, s2, s3⟩ := super_ok gen h (k + 3) (by omega)
  have D1 := D.fresh s3
  have up1 := up.keep s3
  obtain ⟨h2, w1, w2, w3⟩ := write_ok D1 up1 ((gen % 2 : Nat) : Int) (U := fun _ => False) (x := x) (b := superOf gen) (.inl s2.bs) (fun _ _ h => h.elim) (by omega) hf (k + 1)
  have hwl := write_loose d ((gen % 2 : Nat) : Int) (superOf gen)
  have hwf := write_fuse d ((gen % 2 : Nat) : Int) (superOf gen)
  unfold Dk.install
  generalize d.write ((gen % 2 : Nat) : Int) (superOf gen) = W at *
  obtain ⟨we, wd⟩ := W
  simp only at *
  have rm := rem2_i64 gen hg true
  have k12 := (s3.up up).trans w3
  by_cases z : we = 0
  · subst z
    obtain ⟨h3, f1, f2, f3⟩ := flush_ok w2 (up1.keep w3) (by omega) (by omega) false (k + 3) (by omega)
    rw [if_neg (fun h => h rfl)]
    refine ⟨h3, exFn_of e66 ?_, f2, k12.trans f3⟩
    have c0 : decide ((0 : Int) ≠ 0) = false := by decide
    rw [fnK, show ([dp p, .int .i64 gen] ++ List.replicate (17 - [dp p, AV.int .i64 gen].length) AV.undef) = st 17 [(0, dp p), (1, .int .i64 gen)] from rfl, s66]
    simp -implicitDefEqProofs only [↓RK, RK, ↓RB, RB, decide_true, decide_false, STs, Nat.reduceBEq, ↓reduceIte, Nat.reduceLT, ↓R66, R66, rm, s1, w1, neq27, c0, f1]
  · rw [if_pos z]
    refine ⟨h2, exFn_of e66 ?_, w2, k12⟩
    have c0 : decide (we ≠ 0) = true := decide_eq_true z
    rw [fnK, show ([dp p, .int .i64 gen] ++ List.replicate (17 - [dp p, AV.int .i64 gen].length) AV.undef) = st 17 [(0, dp p), (1, .int .i64 gen)] from rfl, s66]
    simp -implicitDefEqProofs only [↓RK, RK, ↓RB, RB, decide_true, decide_false, STs, Nat.reduceBEq, ↓reduceIte, Nat.reduceLT, ↓R66, R66, rm, s1, w1, neq27, c0]
def Dk.format (d : Dk) : Int × Dk :=
  let c := d.clean (fromOf d.lasts.length 1 : Nat) (toOf d.lasts.length 1 : Nat)
  if c.1 ≠ 0 then c else c.2.install 1
end Go.Ax

namespace Go.Ax
open Go Go.Proofs
theorem burn_loose (d : Dk) : d.burn.loose = d.loose := rfl
theorem burn_down {d : Dk} (h : d.down = true) : d.burn.down = true := by simp [Dk.burn, h]
theorem write_in {d : Dk} {a : Int} {b : List UInt8} (ha : d.has a) (hb : b.length ≤ 64) : d.write a b = if d.burn.down then (4, d.burn) else (0, d.burn.add (a.toNat, pad b)) := by
  unfold Dk.write
  rw [if_neg (by rintro (h | h); exact h ha; omega)]
theorem write_st {d : Dk} {a : Int} {b : List UInt8} (ha : d.has a) (hb : b.length ≤ 64) :
    ((d.write a b).1 = 4 ∧ (d.write a b).2.down = true ∧ (d.write a b).2.loose = d.loose) ∨ ((d.write a b).1 = 0 ∧ (d.write a b).2.down = false ∧ d.down = false ∧ (d.write a b).2.loose.length = d.loose.length + 1) := by
  rw [write_in ha hb]
  cases h : d.burn.down
  · right
    have hd : d.down = false := by
      cases hd : d.down
      · rfl
      · rw [burn_down hd] at h; cases h
    simp [Dk.add, h, hd, burn_loose]
  · left
    simp [h, burn_loose]
theorem flush_st (d : Dk) : (d.flush.1 = 4 ∧ d.flush.2.down = true ∧ d.flush.2.loose = d.loose) ∨ (d.flush.1 = 0 ∧ d.flush.2.down = false ∧ d.down = false ∧ d.flush.2.loose = []) := by
  unfold Dk.flush
  cases h : d.burn.down
  · right
    have hd : d.down = false := by
      cases hd : d.down
      · rfl
      · rw [burn_down hd] at h; cases h
    simp [h, hd]
  · left
    simp [h, burn_loose]
structure Sane (d : Dk) : Prop where
  up : d.down = false → d.loose = []
  few : d.loose.length ≤ 1100
  fuse : d.fuse < 2 ^ 63
  len : d.lasts.length ≤ 1024
theorem write_has {d : Dk} {a i : Int} {b : List UInt8} : (d.write a b).2.has i ↔ d.has i := by unfold Dk.has; rw [write_len]
theorem layLoop_st {at' : Int} {b : List UInt8} : ∀ (m i : Nat) (d : Dk), (∀ j, i ≤ j → j < i + m → d.has (at' + (j : Nat))) →
    ((layLoop at' b m i d).1 = 4 ∧ (layLoop at' b m i d).2.down = true ∧ (layLoop at' b m i d).2.loose.length ≤ d.loose.length + (if d.down then 0 else m)) ∨
    ((layLoop at' b m i d).1 = 0 ∧ (layLoop at' b m i d).2.down = d.down ∧ (layLoop at' b m i d).2.loose.length ≤ d.loose.length + (if d.down then 0 else m)) := by
  intro m
  induction m with
  | zero => intro i d _; right; rw [layLoop_zero]; simp
  | succ m ih =>
    intro i d h
    rcases write_st (h i (Nat.le_refl _) (by omega)) (chunk_length b i) with ⟨w1, w2, w3⟩ | ⟨w1, w2, w3, w4⟩
    · left
      rw [layLoop_no (by rw [w1]; decide), w1, w2, w3]
      simp
    · rw [layLoop_go w1]
      have := ih (i + 1) (d.write (at' + i) (chunk b i)).2 (fun j h1 h2 => write_has.2 (h j (by omega) (by omega)))
      rw [w2, w4] at this
      rw [w3]
      simp only [Bool.false_eq_true, if_false] at this ⊢
      rcases this with ⟨h1, h2, h3⟩ | ⟨h1, h2, h3⟩
      · exact .inl ⟨h1, h2, by omega⟩
      · exact .inr ⟨h1, h2, by omega⟩
theorem lay_at {d : Dk} {at' e gen : Int} {b : List UInt8} (h : (d.lay at' e gen b).1.2 = 0) : 0 ≤ at' ∧ (d.lay at' e gen b).1.1 = at' + sizeOf b.length ∧ at' + sizeOf b.length ≤ min e d.lasts.length ∧ b.length ≤ 8192 := by
  by_cases q1 : 8192 < b.length ∨ gen < 0 ∨ 2147483647 < gen ∨ at' < 0
  · rw [lay_arg q1] at h; cases h
  by_cases q2 : e < at' ∨ min e d.lasts.length - at' < sizeOf b.length
  · rw [lay_full q1 q2] at h; cases h
  have hl := lay_go q1 q2 rfl
  rw [hl] at h ⊢
  split at h
  · rename_i z; exact absurd h z
  · rename_i z1
    rw [if_neg z1]
    split at h
    · rename_i z; exact absurd h z
    · rename_i z2
      rw [if_neg z2]
      split at h
      · rename_i z; exact absurd h z
      · rename_i z3
        rw [if_neg z3]
        split at h
        · rename_i z; exact absurd h z
        · rename_i z4
          rw [if_neg z4]
          exact ⟨by omega, rfl, by omega, by omega⟩
theorem layLoop_len (at' : Int) (b : List UInt8) : ∀ m i d, (layLoop at' b m i d).2.lasts.length = d.lasts.length := by
  intro m
  induction m with
  | zero => intro i d; rfl
  | succ m ih =>
    intro i d
    by_cases h : (d.write (at' + i) (chunk b i)).1 = 0
    · rw [layLoop_go h, ih, write_len]
    · rw [layLoop_no h, write_len]
theorem lay_st {d : Dk} {at' e gen : Int} {b : List UInt8} (hs : Sane d) : Sane (d.lay at' e gen b).2 ∧ (d.lay at' e gen b).2.lasts.length = d.lasts.length ∧
    ((d.lay at' e gen b).1.2 = 0 ∨ (d.lay at' e gen b).1.2 = 4 ∨ (((d.lay at' e gen b).1.2 = 1 ∨ (d.lay at' e gen b).1.2 = 3) ∧ (d.lay at' e gen b).2 = d)) ∧
    ((d.lay at' e gen b).1.2 = 4 → (d.lay at' e gen b).2.down = true) ∧ ((d.lay at' e gen b).1.2 = 0 → d.down = false ∧ (d.lay at' e gen b).2.down = false) := by
  by_cases q1 : 8192 < b.length ∨ gen < 0 ∨ 2147483647 < gen ∨ at' < 0
  · rw [lay_arg q1]; exact ⟨hs, rfl, .inr (.inr ⟨.inl rfl, rfl⟩), fun h => (by cases h), fun h => by cases h⟩
  by_cases q2 : e < at' ∨ min e d.lasts.length - at' < sizeOf b.length
  · rw [lay_full q1 q2]; exact ⟨hs, rfl, .inr (.inr ⟨.inr rfl, rfl⟩), fun h => (by cases h), fun h => by cases h⟩
  have hsz : sizeOf b.length = 1 + ((b.length : Int) + 63) / 64 := by unfold sizeOf; omega
  have hlen := hs.len
  have hl := layLoop_st (at' := at') (b := b) ((sizeOf b.length).toNat - 1) 1 d (fun j h1 h2 => ⟨by omega, by omega⟩)
  have hll := layLoop_len at' b ((sizeOf b.length).toNat - 1) 1 d
  have hlf := layLoop_fuse at' b ((sizeOf b.length).toNat - 1) 1 d
  rw [lay_go q1 q2 rfl]
  generalize layLoop at' b ((sizeOf b.length).toNat - 1) 1 d = L at *
  obtain ⟨le, ld⟩ := L
  simp only at hl hll hlf ⊢
  have few := hs.few
  have fuse := hs.fuse
  have hm : d.loose.length + (if d.down = true then 0 else (sizeOf b.length).toNat - 1) ≤ 1100 := by
    split
    · omega
    · rename_i h
      rw [hs.up (by simpa using h)]
      simp only [List.length_nil]
      omega
  rcases hl with ⟨rfl, l2, l3⟩ | ⟨rfl, l2, l3⟩
  · rw [if_pos (by decide)]
    exact ⟨⟨fun h => (by rw [l2] at h; cases h), by simp only; omega, by simp only; omega, by simp only; omega⟩, hll, .inr (.inl rfl), fun _ => l2, fun h => by cases h⟩
  rw [if_neg (by decide)]
  have ff := flush_fuse ld
  have fl := flush_len ld
  have fs := flush_st ld
  generalize ld.flush = F at *
  obtain ⟨fe, fd⟩ := F
  simp only at ff fl fs ⊢
  rcases fs with ⟨rfl, f2, f3⟩ | ⟨rfl, f2, f3, f4⟩
  · rw [if_pos (by decide)]
    exact ⟨⟨fun h => (by rw [f2] at h; cases h), by simp only; rw [f3]; omega, by simp only; omega, by simp only; omega⟩, by simp only; omega, .inr (.inl rfl), fun _ => f2, fun h => by cases h⟩
  rw [if_neg (by decide)]
  have wf := write_fuse fd at' (head16 (BitVec.ofInt 32 gen) b)
  have wl := write_len fd at' (head16 (BitVec.ofInt 32 gen) b)
  have ws := write_st (d := fd) (a := at') (b := head16 (BitVec.ofInt 32 gen) b) ⟨by omega, by omega⟩ (by rw [head16_length]; omega)
  generalize fd.write at' (head16 (BitVec.ofInt 32 gen) b) = W at *
  obtain ⟨we, wd⟩ := W
  simp only at wf wl ws ⊢
  rcases ws with ⟨rfl, w2, w3⟩ | ⟨rfl, w2, w3, w4⟩
  · rw [if_pos (by decide)]
    exact ⟨⟨fun h => (by rw [w2] at h; cases h), by simp only; rw [w3, f4]; simp, by simp only; omega, by simp only; omega⟩, by simp only; omega, .inr (.inl rfl), fun _ => w2, fun h => by cases h⟩
  rw [if_neg (by decide)]
  have gf := flush_fuse wd
  have gl := flush_len wd
  have gs := flush_st wd
  generalize wd.flush = G at *
  obtain ⟨ge, gd⟩ := G
  simp only at gf gl gs ⊢
  rcases gs with ⟨rfl, g2, g3⟩ | ⟨rfl, g2, g3, g4⟩
  · rw [if_pos (by decide)]
    exact ⟨⟨fun h => (by rw [g2] at h; cases h), by simp only; rw [g3, w4, f4]; simp, by simp only; omega, by simp only; omega⟩, by simp only; omega, .inr (.inl rfl), fun _ => g2, fun h => by cases h⟩
  · rw [if_neg (by decide)]
    exact ⟨⟨fun _ => g4, by simp only; rw [g4]; simp, by simp only; omega, by simp only; omega⟩, by simp only; omega, .inl rfl, fun h => (by cases h), fun _ => ⟨by rw [← l2]; exact f3, g2⟩⟩
theorem cleanLoop_st : ∀ (m i : Nat) (s : Bool) (d : Dk), i + m ≤ d.lasts.length →
    (((cleanLoop m i s d).1 = 4 ∧ (cleanLoop m i s d).2.2.down = true) ∨ ((cleanLoop m i s d).1 = 0 ∧ (cleanLoop m i s d).2.2.down = d.down ∧ ((cleanLoop m i s d).2.1 = true ∨ (cleanLoop m i s d).2.2 = d))) ∧
    (cleanLoop m i s d).2.2.loose.length ≤ d.loose.length + (if d.down then 0 else m) := by
  intro m
  induction m with
  | zero => intro i s d _; rw [cleanLoop_zero]; simp
  | succ m ih =>
    intro i s d h
    cases hz : ((d.now[i]?).getD []).all (· == 0)
    · rcases write_st (d := d) (a := (i : Int)) (b := []) ⟨by omega, by omega⟩ (by simp) with ⟨w1, w2, w3⟩ | ⟨w1, w2, w3, w4⟩
      · rw [cleanLoop_no hz (by rw [w1]; decide), w1, w2, w3]
        simp
      · rw [cleanLoop_go hz w1]
        have hs : ∀ m i d, (cleanLoop m i true d).2.1 = true := by
          intro m
          induction m with
          | zero => intro i d; rfl
          | succ m ih =>
            intro i d
            cases hz : ((d.now[i]?).getD []).all (· == 0)
            · by_cases hw : (d.write i []).1 = 0
              · rw [cleanLoop_go hz hw]; exact ih _ _
              · rw [cleanLoop_no hz hw]
            · rw [cleanLoop_blank hz]; exact ih _ _
        have := ih (i + 1) true (d.write i []).2 (by rw [write_len]; omega)
        rw [w2, w4] at this
        rw [w3]
        simp only [Bool.false_eq_true, if_false] at this ⊢
        obtain ⟨h1, h2⟩ := this
        refine ⟨?_, by omega⟩
        rcases h1 with h1 | ⟨h1, h3, -⟩
        · exact .inl h1
        · exact .inr ⟨h1, h3, .inl (hs _ _ _)⟩
    · rw [cleanLoop_blank hz]
      obtain ⟨h1, h2⟩ := ih (i + 1) s d (by omega)
      refine ⟨h1, Nat.le_trans h2 ?_⟩
      split <;> omega
theorem clean_st {d : Dk} {a e : Int} (hs : Sane d) : Sane (d.clean a e).2 ∧ (d.clean a e).2.lasts.length = d.lasts.length ∧ ((d.clean a e).1 = 0 ∨ (d.clean a e).1 = 4) ∧ ((d.clean a e).1 = 4 → (d.clean a e).2.down = true) := by
  have few := hs.few
  have fuse := hs.fuse
  have len := hs.len
  have hc := cleanLoop_st (min e d.lasts.length - max a 0).toNat (max a 0).toNat false d
  have hl := cleanLoop_loose (min e d.lasts.length - max a 0).toNat (max a 0).toNat false d
  have hm : d.loose.length + (if d.down = true then 0 else (min e d.lasts.length - max a 0).toNat) ≤ 1100 := by
    split
    · omega
    · rename_i h
      rw [hs.up (by simpa using h)]
      simp only [List.length_nil]
      omega
  unfold Dk.clean
  by_cases h0 : (max a 0).toNat + (min e d.lasts.length - max a 0).toNat ≤ d.lasts.length
  case neg =>
    have : (min e d.lasts.length - max a 0).toNat = 0 := by omega
    rw [this, cleanLoop_zero]
    simp only [ne_eq, not_true_eq_false, if_false, Bool.false_eq_true]
    exact ⟨hs, trivial, .inl trivial, fun h => by cases h⟩
  have hc := hc h0
  generalize cleanLoop (min e d.lasts.length - max a 0).toNat (max a 0).toNat false d = L at *
  obtain ⟨le, ls, ld⟩ := L
  simp only at hc hl ⊢
  obtain ⟨hc, hlo⟩ := hc
  rcases hc with ⟨rfl, c2⟩ | ⟨rfl, c2, c3⟩
  · rw [if_pos (by decide)]
    exact ⟨⟨fun h => (by rw [c2] at h; cases h), by simp only; omega, by simp only; omega, by simp only; omega⟩, hl.2.2, .inr rfl, fun _ => c2⟩
  rw [if_neg (by decide)]
  cases ls
  · simp only [Bool.false_eq_true, if_false]
    obtain rfl : ld = d := by simpa using c3
    exact ⟨hs, rfl, .inl trivial, fun h => by cases h⟩
  · simp only [if_true]
    have ff := flush_fuse ld
    have fl := flush_len ld
    have fs := flush_st ld
    generalize ld.flush = F at *
    obtain ⟨fe, fd⟩ := F
    simp only at ff fl fs ⊢
    rcases fs with ⟨rfl, f2, f3⟩ | ⟨rfl, f2, f3, f4⟩
    · exact ⟨⟨fun h => (by rw [f2] at h; cases h), by rw [f3]; omega, by omega, by omega⟩, by omega, .inr rfl, fun _ => f2⟩
    · exact ⟨⟨fun _ => f4, by rw [f4]; simp, by omega, by omega⟩, by omega, .inl rfl, fun h => by cases h⟩
theorem install_st {d : Dk} {gen : Nat} (hs : Sane d) (h2 : 2 ≤ d.lasts.length) : Sane (d.install gen).2 ∧ (d.install gen).2.lasts.length = d.lasts.length ∧ ((d.install gen).1 = 0 ∨ (d.install gen).1 = 4) ∧ ((d.install gen).1 = 4 → (d.install gen).2.down = true) := by
  have few := hs.few
  have fuse := hs.fuse
  have len := hs.len
  have wf := write_fuse d ((gen % 2 : Nat) : Int) (superOf gen)
  have wl := write_len d ((gen % 2 : Nat) : Int) (superOf gen)
  have ws := write_st (d := d) (a := ((gen % 2 : Nat) : Int)) (b := superOf gen) ⟨by omega, by omega⟩ (by rw [superOf_length]; omega)
  unfold Dk.install
  generalize d.write ((gen % 2 : Nat) : Int) (superOf gen) = W at *
  obtain ⟨we, wd⟩ := W
  simp only at wf wl ws ⊢
  rcases ws with ⟨rfl, w2, w3⟩ | ⟨rfl, w2, w3, w4⟩
  · rw [if_pos (by decide)]
    exact ⟨⟨fun h => (by rw [w2] at h; cases h), by simp only; rw [w3]; omega, by simp only; omega, by simp only; omega⟩, wl, .inr rfl, fun _ => w2⟩
  rw [if_neg (by decide)]
  have gf := flush_fuse wd
  have gl := flush_len wd
  have gs := flush_st wd
  generalize wd.flush = G at *
  obtain ⟨ge, gd⟩ := G
  simp only at gf gl gs ⊢
  rcases gs with ⟨rfl, g2, g3⟩ | ⟨rfl, g2, g3, g4⟩
  · exact ⟨⟨fun h => (by rw [g2] at h; cases h), by rw [g3, w4, hs.up w3]; simp, by omega, by omega⟩, by omega, .inr rfl, fun _ => g2⟩
  · exact ⟨⟨fun _ => g4, by rw [g4]; simp, by omega, by omega⟩, by omega, .inl rfl, fun h => by cases h⟩
theorem new_sane (n : Int) : Sane (Dk.new n) := ⟨fun _ => rfl, by simp [Dk.new], by simp [Dk.new], by simp [Dk.new, newN]; omega⟩
theorem crash_sane {d : Dk} (h : d.lasts.length ≤ 1024) (K : Nat) (torn at' : Int) : Sane (d.crash K torn at') := ⟨fun _ => rfl, by simp [Dk.crash], by simp [Dk.crash], by simp only [Dk.crash, crashed_length]; exact h⟩
theorem fuse_sane {d : Dk} (hs : Sane d) {n : Int} (hn : n < 2 ^ 63) : Sane (d.setFuse n) := ⟨hs.up, hs.few, by simp only [Dk.setFuse]; omega, hs.len⟩
theorem format_st {d : Dk} (hs : Sane d) (h2 : 2 ≤ d.lasts.length) : Sane d.format.2 ∧ d.format.2.lasts.length = d.lasts.length ∧ (d.format.1 = 0 ∨ d.format.1 = 4) ∧ (d.format.1 = 4 → d.format.2.down = true) := by
  obtain ⟨c1, c2, c3, c4⟩ := clean_st (a := (fromOf d.lasts.length 1 : Nat)) (e := (toOf d.lasts.length 1 : Nat)) hs
  unfold Dk.format
  generalize d.clean (fromOf d.lasts.length 1 : Nat) (toOf d.lasts.length 1 : Nat) = C at *
  obtain ⟨ce, cd⟩ := C
  simp only at *
  split
  · exact ⟨c1, c2, c3, c4⟩
  · have := install_st (gen := 1) c1 (by omega)
    rw [c2] at this
    exact this
end Go.Ax

set_option linter.unusedVariables false
namespace Go.Ax
open Go Go.Proofs
noncomputable def O69 (i : Nat) : Array Oper := opsOf i (bodyOf Try.f69)
noncomputable def B69_1 : Code := (.seq (.seq (.region 7 (O69 7) false) (.cond (Go.Operand.tmp 54) .skip (.exit 0))) (.seq (.block 1 (.seq (.region 9 (O69 9) false) (.seq (.region 10 (O69 10) false) (.cond (Go.Operand.tmp 67) (.seq (.region 11 (O69 11) false) .ret) .skip)))) (.region 8 (O69 8) false)))
theorem s69 : bodyOf Try.f69 = (.seq (.region 0 (O69 0) false) (.seq (.seq (.region 1 (O69 1) false) (.cond (Go.Operand.tmp 32) (.seq (.region 2 (O69 2) false) .ret) .skip)) (.seq (.region 3 (O69 3) false) (.seq (.seq (.region 4 (O69 4) false) (.cond (Go.Operand.tmp 50) (.seq (.region 5 (O69 5) false) .ret) .skip)) (.seq (.seq (.region 6 (O69 6) false) (.block 0 (.loop B69_1))) (.seq (.seq (.region 12 (O69 12) false) (.seq (.region 13 (O69 13) false) (.cond (Go.Operand.tmp 72) (.seq (.region 14 (O69 14) false) .ret) .skip))) (.seq (.seq (.region 15 (O69 15) false) (.seq (.region 16 (O69 16) false) (.cond (Go.Operand.tmp 81) (.seq (.region 17 (O69 17) false) .ret) .skip))) (.seq (.seq (.region 18 (O69 18) false) (.seq (.region 19 (O69 19) false) (.cond (Go.Operand.tmp 86) (.seq (.region 20 (O69 20) false) .ret) .skip))) (.seq (.region 21 (O69 21) false) .ret))))))))) := by kernel_rfl
theorem e69 : E0 69 = some ⟨92, [10, 11], bodyOf Try.f69⟩ := by kernel_rfl
theorem r69_0 (x0 x1 x2 x3 x4 : AV) : RR O69 69 92 0 false [(0, x0), (1, x1), (2, x2), (3, x3), (4, x4)] fun _ call md k h =>
 k .normal (st 92 [(0, x0), (1, x1), (2, x2), (3, x3), (4, x4)]) h
 := fun _ _ _ _ _ _ => by kernel_rfl
theorem r69_1 (x0 x1 x2 x3 x4 : AV) : RR O69 69 92 1 false [(0, x0), (1, x1), (2, x2), (3, x3), (4, x4)] fun _ call md k h =>
 bnd (aLen tab 22 x4) fun v1 =>
 bnd (aBinC tab .gtr 3 v1 (.int .i64 8192) true) fun v2 =>
 gd false v2 h (fun k => k x3 h) fun v3 h4 =>
 gd false v2 h4 (fun k => bnd (aBinC tab .lss 3 v3 (.int .i64 0) true) (k · h4)) fun v5 h6 =>
 bnd (aPick v2 (.bool true) v5) fun v7 =>
 gd false v7 h6 (fun k => k x3 h6) fun v8 h9 =>
 gd false v7 h9 (fun k => bnd (aBinC tab .gtr 3 v8 (.int .i64 2147483647) true) (k · h9)) fun v10 h11 =>
 bnd (aPick v7 (.bool true) v10) fun v12 =>
 gd false v12 h11 (fun k => k x1 h11) fun v13 h14 =>
 gd false v12 h14 (fun k => bnd (aBinC tab .lss 3 v13 (.int .i64 0) true) (k · h14)) fun v15 h16 =>
 bnd (aPick v12 (.bool true) v15) fun v17 =>
 k .normal (st 92 [(0, x0), (1, x1), (2, x2), (3, x3), (4, x4), (32, v17)]) h16
 := fun _ _ _ _ _ _ => by kernel_rfl
theorem r69_2 (x0 x1 x2 x3 x4 x32 : AV) : RR O69 69 92 2 false [(0, x0), (1, x1), (2, x2), (3, x3), (4, x4), (32, x32)] fun _ call md k h =>
 k .normal (st 92 [(10, (.int .i64 0)), (11, (.int .i64 1))]) h
 := fun _ _ _ _ _ _ => by kernel_rfl
theorem r69_3 (x0 x1 x2 x3 x4 x32 : AV) : RR O69 69 92 3 false [(0, x0), (1, x1), (2, x2), (3, x3), (4, x4), (32, x32)] fun _ call md k h =>
 bnd2 (call md 32 [x3, x4] h) fun v1 h2 =>
 k .normal (st 92 [(0, x0), (1, x1), (2, x2), (12, v1)]) h2
 := fun _ _ _ _ _ _ => by kernel_rfl
theorem r69_4 (x0 x1 x2 x12 : AV) : RR O69 69 92 4 false [(0, x0), (1, x1), (2, x2), (12, x12)] fun _ call md k h =>
 bnd2 (call md 56 [x0, x2] h) fun v1 h2 =>
 bnd (aBinC tab .lss 3 v1 x1 false) fun v3 =>
 gd false v3 h2 (fun k => k x12 h2) fun v4 h5 =>
 gd false v3 h5 (fun k => bnd (aLen tab 30 v4) (k · h5)) fun v6 h7 =>
 gd false v3 h7 (fun k => k x0 h7) fun v8 h9 =>
 gd false v3 h9 (fun k => k x2 h9) fun v10 h11 =>
 gd false v3 h11 (fun k => bnd2 (call md 56 [v8, v10] h11) k) fun v12 h13 =>
 gd false v3 h13 (fun k => k x1 h13) fun v14 h15 =>
 gd false v3 h15 (fun k => bnd (aBinC tab .sub 3 v12 v14 false) (k · h15)) fun v16 h17 =>
 gd false v3 h17 (fun k => bnd (aBinC tab .gtr 3 v6 v16 false) (k · h17)) fun v18 h19 =>
 bnd (aPick v3 (.bool true) v18) fun v20 =>
 k .normal (st 92 [(0, x0), (1, x1), (12, x12), (50, v20)]) h19
 := fun _ _ _ _ _ _ => by kernel_rfl
theorem r69_5 (x0 x1 x12 x50 : AV) : RR O69 69 92 5 false [(0, x0), (1, x1), (12, x12), (50, x50)] fun _ call md k h =>
 k .normal (st 92 [(10, (.int .i64 0)), (11, (.int .i64 3))]) h
 := fun _ _ _ _ _ _ => by kernel_rfl
theorem r69_6 (x0 x1 x12 x50 : AV) : RR O69 69 92 6 false [(0, x0), (1, x1), (12, x12), (50, x50)] fun _ call md k h =>
 k .normal (st 92 [(0, x0), (1, x1), (12, x12), (13, (.int .i64 1))]) h
 := fun _ _ _ _ _ _ => by kernel_rfl
theorem r69_7 (x0 x1 x12 x13 : AV) : RR O69 69 92 7 false [(0, x0), (1, x1), (12, x12), (13, x13)] fun _ call md k h =>
 bnd (aLen tab 30 x12) fun v1 =>
 bnd (aBinC tab .lss 3 x13 v1 false) fun v2 =>
 k .normal (st 92 [(0, x0), (1, x1), (12, x12), (13, x13), (54, v2)]) h
 := fun _ _ _ _ _ _ => by kernel_rfl
theorem r69_8 (x0 x1 x12 x13 x14 x67 : AV) : RR O69 69 92 8 false [(0, x0), (1, x1), (12, x12), (13, x13), (14, x14), (67, x67)] fun _ call md k h =>
 bnd (aBinC tab .add 3 x13 (.int .i64 1) true) fun v1 =>
 k .normal (st 92 [(0, x0), (1, x1), (12, x12), (13, v1)]) h
 := fun _ _ _ _ _ _ => by kernel_rfl
theorem r69_9 (x0 x1 x12 x13 x54 : AV) : RR O69 69 92 9 false [(0, x0), (1, x1), (12, x12), (13, x13), (54, x54)] fun _ call md k h =>
 bnd (aBinC tab .add 3 x1 x13 false) fun v1 =>
 bnd (aIndexAddr tab 30 x12 x13) fun v2 =>
 bnd (aLoad tab 22 v2 h) fun v3 =>
 bnd2 (call md 54 [x0, v1, v3] h) fun v4 h5 =>
 k .normal (st 92 [(0, x0), (1, x1), (12, x12), (13, x13), (14, v4)]) h5
 := fun _ _ _ _ _ _ => by kernel_rfl
theorem r69_10 (x0 x1 x12 x13 x14 : AV) : RR O69 69 92 10 false [(0, x0), (1, x1), (12, x12), (13, x13), (14, x14)] fun _ call md k h =>
 bnd (aBinC tab .neq 27 x14 (.int .i64 0) true) fun v1 =>
 k .normal (st 92 [(0, x0), (1, x1), (12, x12), (13, x13), (14, x14), (67, v1)]) h
 := fun _ _ _ _ _ _ => by kernel_rfl
theorem r69_11 (x0 x1 x12 x13 x14 x67 : AV) : RR O69 69 92 11 false [(0, x0), (1, x1), (12, x12), (13, x13), (14, x14), (67, x67)] fun _ call md k h =>
 k .normal (st 92 [(10, (.int .i64 0)), (11, x14)]) h
 := fun _ _ _ _ _ _ => by kernel_rfl
theorem r69_12 (x0 x1 x12 x13 x54 : AV) : RR O69 69 92 12 false [(0, x0), (1, x1), (12, x12), (13, x13), (54, x54)] fun _ call md k h =>
 bnd2 (call md 55 [x0] h) fun v1 h2 =>
 k .normal (st 92 [(0, x0), (1, x1), (12, x12), (15, v1)]) h2
 := fun _ _ _ _ _ _ => by kernel_rfl
theorem r69_13 (x0 x1 x12 x15 : AV) : RR O69 69 92 13 false [(0, x0), (1, x1), (12, x12), (15, x15)] fun _ call md k h =>
 bnd (aBinC tab .neq 27 x15 (.int .i64 0) true) fun v1 =>
 k .normal (st 92 [(0, x0), (1, x1), (12, x12), (15, x15), (72, v1)]) h
 := fun _ _ _ _ _ _ => by kernel_rfl
theorem r69_14 (x0 x1 x12 x15 x72 : AV) : RR O69 69 92 14 false [(0, x0), (1, x1), (12, x12), (15, x15), (72, x72)] fun _ call md k h =>
 k .normal (st 92 [(10, (.int .i64 0)), (11, x15)]) h
 := fun _ _ _ _ _ _ => by kernel_rfl
theorem r69_15 (x0 x1 x12 x15 x72 : AV) : RR O69 69 92 15 false [(0, x0), (1, x1), (12, x12), (15, x15), (72, x72)] fun _ call md k h =>
 bnd (aIndexAddr tab 30 x12 (.int .i64 0)) fun v1 =>
 bnd (aLoad tab 22 v1 h) fun v2 =>
 bnd2 (call md 54 [x0, x1, v2] h) fun v3 h4 =>
 k .normal (st 92 [(0, x0), (1, x1), (12, x12), (16, v3)]) h4
 := fun _ _ _ _ _ _ => by kernel_rfl
theorem r69_16 (x0 x1 x12 x16 : AV) : RR O69 69 92 16 false [(0, x0), (1, x1), (12, x12), (16, x16)] fun _ call md k h =>
 bnd (aBinC tab .neq 27 x16 (.int .i64 0) true) fun v1 =>
 k .normal (st 92 [(0, x0), (1, x1), (12, x12), (16, x16), (81, v1)]) h
 := fun _ _ _ _ _ _ => by kernel_rfl
theorem r69_17 (x0 x1 x12 x16 x81 : AV) : RR O69 69 92 17 false [(0, x0), (1, x1), (12, x12), (16, x16), (81, x81)] fun _ call md k h =>
 k .normal (st 92 [(10, (.int .i64 0)), (11, x16)]) h
 := fun _ _ _ _ _ _ => by kernel_rfl
theorem r69_18 (x0 x1 x12 x16 x81 : AV) : RR O69 69 92 18 false [(0, x0), (1, x1), (12, x12), (16, x16), (81, x81)] fun _ call md k h =>
 bnd2 (call md 55 [x0] h) fun v1 h2 =>
 k .normal (st 92 [(1, x1), (12, x12), (17, v1)]) h2
 := fun _ _ _ _ _ _ => by kernel_rfl
theorem r69_19 (x1 x12 x17 : AV) : RR O69 69 92 19 false [(1, x1), (12, x12), (17, x17)] fun _ call md k h =>
 bnd (aBinC tab .neq 27 x17 (.int .i64 0) true) fun v1 =>
 k .normal (st 92 [(1, x1), (12, x12), (17, x17), (86, v1)]) h
 := fun _ _ _ _ _ _ => by kernel_rfl
theorem r69_20 (x1 x12 x17 x86 : AV) : RR O69 69 92 20 false [(1, x1), (12, x12), (17, x17), (86, x86)] fun _ call md k h =>
 k .normal (st 92 [(10, (.int .i64 0)), (11, x17)]) h
 := fun _ _ _ _ _ _ => by kernel_rfl
theorem r69_21 (x1 x12 x17 x86 : AV) : RR O69 69 92 21 false [(1, x1), (12, x12), (17, x17), (86, x86)] fun _ call md k h =>
 bnd (aLen tab 30 x12) fun v1 =>
 bnd (aBinC tab .add 3 x1 v1 false) fun v2 =>
 k .normal (st 92 [(10, v2), (11, (.int .i64 0))]) h
 := fun _ _ _ _ _ _ => by kernel_rfl
def R69 := And.intro @r69_0 <| And.intro @r69_1 <| And.intro @r69_2 <| And.intro @r69_3 <| And.intro @r69_4 <| And.intro @r69_5 <| And.intro @r69_6 <| And.intro @r69_7 <| And.intro @r69_8 <| And.intro @r69_9 <| And.intro @r69_10 <| And.intro @r69_11 <| And.intro @r69_12 <| And.intro @r69_13 <| And.intro @r69_14 <| And.intro @r69_15 <| And.intro @r69_16 <| And.intro @r69_17 <| And.intro @r69_18 <| And.intro @r69_19 <| And.intro @r69_20 <| @r69_21
end Go.Ax

namespace Go.Ax
open Go Go.Proofs
def rlayLoop (at' : Int) (b : List UInt8) : Nat → Nat → Dk → Int × Dk
  | 0, _, d => (0, d)
  | m + 1, i, d => if (d.rwrite (at' + i) (pad (chunk b i))).1 = 0 then rlayLoop at' b m (i + 1) (d.rwrite (at' + i) (pad (chunk b i))).2 else d.rwrite (at' + i) (pad (chunk b i))
theorem rlayLoop_go {at' : Int} {b : List UInt8} {m i : Nat} {d : Dk} (h : (d.rwrite (at' + i) (pad (chunk b i))).1 = 0) : rlayLoop at' b (m + 1) i d = rlayLoop at' b m (i + 1) (d.rwrite (at' + i) (pad (chunk b i))).2 := if_pos h
theorem rlayLoop_no {at' : Int} {b : List UInt8} {m i : Nat} {d : Dk} (h : (d.rwrite (at' + i) (pad (chunk b i))).1 ≠ 0) : rlayLoop at' b (m + 1) i d = d.rwrite (at' + i) (pad (chunk b i)) := if_neg h
def Dk.rlay (d : Dk) (at' e gen : Int) (b : List UInt8) : (Int × Int) × Dk :=
  if 8192 < b.length ∨ gen < 0 ∨ 2147483647 < gen ∨ at' < 0 then ((0, 1), d)
  else if min e d.lasts.length < at' ∨ min e d.lasts.length - at' < nOf b then ((0, 3), d)
  else
    let l := rlayLoop at' b (nOf b - 1) 1 d
    if l.1 ≠ 0 then ((0, l.1), l.2)
    else if l.2.rflush.1 ≠ 0 then ((0, l.2.rflush.1), l.2.rflush.2)
    else
      let w := l.2.rflush.2.rwrite at' (pad (head16 (BitVec.ofInt 32 gen) b))
      if w.1 ≠ 0 then ((0, w.1), w.2)
      else if w.2.rflush.1 ≠ 0 then ((0, w.2.rflush.1), w.2.rflush.2)
      else ((at' + nOf b, 0), w.2.rflush.2)
theorem rflush_fuse (d : Dk) : d.rflush.2.fuse ≤ d.fuse := by
  unfold Dk.rflush
  split
  · exact Int.le_refl _
  · simp only [Dk.rburn]; split <;> omega
theorem rflush_loose (d : Dk) : d.rflush.2.loose.length ≤ d.loose.length := by
  unfold Dk.rflush
  split
  · simp [Dk.rdown]
  · simp
theorem rflush_len (d : Dk) : d.rflush.2.lasts.length = d.lasts.length := by
  unfold Dk.rflush
  split
  · rfl
  · exact land_length _ _
theorem rlayLoop_sz (at' : Int) (b : List UInt8) : ∀ m i d, (rlayLoop at' b m i d).2.loose.length ≤ d.loose.length + m ∧ (rlayLoop at' b m i d).2.fuse ≤ d.fuse ∧ (rlayLoop at' b m i d).2.lasts.length = d.lasts.length := by
  intro m
  induction m with
  | zero => intro i d; simp [rlayLoop]
  | succ m ih =>
    intro i d
    have h1 := rwrite_loose d (at' + i) (pad (chunk b i))
    have h2 := rwrite_fuse d (at' + i) (pad (chunk b i))
    have h3 := rwrite_len d (at' + i) (pad (chunk b i))
    by_cases h : (d.rwrite (at' + i) (pad (chunk b i))).1 = 0
    · rw [rlayLoop_go h]
      have := ih (i + 1) (d.rwrite (at' + i) (pad (chunk b i))).2
      omega
    · rw [rlayLoop_no h]; omega
theorem rlay_loop {S : Obs} {p r : Nat} {y : AV} {es : List (List UInt8)} (hy : Rw y es) {b : List UInt8} (hes : ∀ j, 1 ≤ j → j < es.length → es[j]? = some (pad (chunk b j))) (a : Nat) (N : Nat) (ha : a + es.length ≤ 1024) :
    ∀ (m i n : Nat) (d : Dk) (h : Heap), 1 ≤ i → i + m = es.length → m < n → Up S h → Rsk S h p r d → d.loose.length + m < 2 ^ 29 → d.fuse < 2 ^ 63 →
    ∃ h' tm, (∀ K : Ex → List AV → Heap → Option (AV × Heap), loopK (fun next => runK C0 (exFn C0 E0 (N + 3)) false 69 (N + 3) B69_1 (seqE next K)) n (st 92 [(0, rp p), (1, .int .i64 a), (12, y), (13, .int .i64 i)]) h =
      if (rlayLoop a b m i d).1 = 0 then K (.exit 0) (st 92 [(0, rp p), (1, .int .i64 a), (12, y), (13, .int .i64 es.length), (54, .bool false)]) h' else K .ret tm h') ∧
      ((rlayLoop a b m i d).1 ≠ 0 → tm = st 92 [(10, .int .i64 0), (11, .int .i64 (rlayLoop a b m i d).1)]) ∧ Rsk S h' p r (rlayLoop a b m i d).2 ∧ Keep S h h' := by
  intro m
  induction m with
  | zero =>
    intro i n d h hi1 hi hn up D hl hf
    obtain ⟨n, rfl⟩ : ∃ j, n = j + 1 := ⟨n - 1, by omega⟩
    obtain rfl : i = es.length := by omega
    refine ⟨h, [], fun K => ?_, fun h => absurd rfl h, D, Keep.refl _ _⟩
    rw [loopK_succ]
    generalize loopK (_ : (List AV → Heap → Option (AV × Heap)) → List AV → Heap → Option (AV × Heap)) n = Lp
    have e : decide (((es.length : Nat) : Int) < (es.length : Nat)) = false := decide_eq_false (by omega)
    rw [show rlayLoop (a : Int) b 0 es.length d = (0, d) from rfl, if_pos rfl]
    simp -implicitDefEqProofs only [B69_1, ↓RK, RK, ↓RB, RB, decide_true, decide_false, STs, Nat.reduceBEq, ↓reduceIte, Nat.reduceLT, ↓R69, R69, hy.len, bin_lss, e]
  | succ m ih =>
    intro i n d h hi1 hi hn up D hl hf
    obtain ⟨n, rfl⟩ : ∃ j, n = j + 1 := ⟨n - 1, by omega⟩
    have e : decide (((i : Nat) : Int) < (es.length : Nat)) = true := decide_eq_true (by omega)
    have wa : IntKind.i64.wrap ((a : Int) + (i : Int)) = (a : Int) + i := by rw [wrap_i64] <;> omega
    have wr : IntKind.i64.wrap ((i : Int) + 1) = ((i + 1 : Nat) : Int) := by rw [wrap_i64] <;> omega
    obtain ⟨v, hv, bv⟩ := hy.idx (hes i hi1 (by omega))
    obtain ⟨h1, w1, w2, w3⟩ := rwrite_ok D up ((a : Int) + i) (U := fun _ => False) (.inl bv) (fun _ _ h => h.elim) (by omega) hf N
    have h4 := rwrite_loose d ((a : Int) + i) (pad (chunk b i))
    have h5 := rwrite_fuse d ((a : Int) + i) (pad (chunk b i))
    by_cases hw : (d.rwrite ((a : Int) + i) (pad (chunk b i))).1 = 0
    · rw [rlayLoop_go hw]
      rw [hw] at w1
      have c0 : decide ((0 : Int) ≠ 0) = false := by decide
      obtain ⟨h2, tm, g1, g2, g3, g4⟩ := ih (i + 1) n _ h1 (by omega) (by omega) (by omega) (up.keep w3) w2 (by omega) (by omega)
      refine ⟨h2, tm, fun K => ?_, g2, g3, w3.trans g4⟩
      rw [loopK_succ, ← g1 K]
      generalize loopK (_ : (List AV → Heap → Option (AV × Heap)) → List AV → Heap → Option (AV × Heap)) n = Lp
      simp -implicitDefEqProofs only [B69_1, ↓RK, RK, ↓RB, RB, decide_true, decide_false, STs, Nat.reduceBEq, ↓reduceIte, Nat.reduceLT, ↓R69, R69, hy.len, bin_lss, e, bin_add, wa, hv, load22, w1, neq27, c0, wr]
    · rw [rlayLoop_no hw]
      have c0 : decide ((d.rwrite ((a : Int) + i) (pad (chunk b i))).1 ≠ 0) = true := decide_eq_true hw
      refine ⟨h1, _, fun K => ?_, fun _ => rfl, w2, w3⟩
      rw [loopK_succ, if_neg hw]
      generalize loopK (_ : (List AV → Heap → Option (AV × Heap)) → List AV → Heap → Option (AV × Heap)) n = Lp
      simp -implicitDefEqProofs only [B69_1, ↓RK, RK, ↓RB, RB, decide_true, decide_false, STs, Nat.reduceBEq, ↓reduceIte, Nat.reduceLT, ↓R69, R69, hy.len, bin_lss, e, bin_add, wa, hv, load22, w1, neq27, c0]
theorem rlay_ok {S : Obs} {p r : Nat} {h : Heap} {d : Dk} (D : Rsk S h p r d) (up : Up S h) (hl : d.loose.length < 2 ^ 28) (hf : d.fuse < 2 ^ 63) (at' e gen : Int) (hat : at' < 2 ^ 63) {x : AV} {b : List UInt8} (hx : Bs x b)
    (hbl : b.length < 2 ^ 39) (k : Nat) (hk : d.loose.length + 9000 < k) (hk2 : b.length + 70 < k) :
    ∃ h', exFn C0 E0 (k + 1) false 69 [rp p, .int .i64 at', .int .i64 e, .int .i64 gen, x] h = some (.tuple [.int .i64 (d.rlay at' e gen b).1.1, .int .i64 (d.rlay at' e gen b).1.2], h') ∧ Rsk S h' p r (d.rlay at' e gen b).2 ∧ Keep S h h' := by
  obtain ⟨k, rfl⟩ : ∃ j, k = j + 3 := ⟨k - 3, by omega⟩
  have hfew := D.few
  have n0 : ([rp p, .int .i64 at', .int .i64 e, .int .i64 gen, x] ++ List.replicate (92 - [rp p, .int .i64 at', .int .i64 e, .int .i64 gen, x].length) AV.undef) = st 92 [(0, rp p), (1, .int .i64 at'), (2, .int .i64 e), (3, .int .i64 gen), (4, x)] := rfl
  unfold Dk.rlay
  by_cases q1 : 8192 < b.length ∨ gen < 0 ∨ 2147483647 < gen ∨ at' < 0
  · rw [if_pos q1]
    refine ⟨h, exFn_of e69 ?_, D, Keep.refl _ _⟩
    rw [fnK, n0, s69]
    by_cases c1 : 8192 < b.length
    · simp -implicitDefEqProofs only [↓RK, RK, ↓RB, RB, decide_true, decide_false, STs, Nat.reduceBEq, ↓reduceIte, Nat.reduceLT, ↓R69, R69, hx.len, bin_gtr, decide_eq_true (show (8192 : Int) < (b.length : Nat) by omega)]
    · by_cases c2 : gen < 0
      · simp -implicitDefEqProofs only [↓RK, RK, ↓RB, RB, decide_true, decide_false, STs, Nat.reduceBEq, ↓reduceIte, Nat.reduceLT, ↓R69, R69, hx.len, bin_gtr, decide_eq_false (show ¬ (8192 : Int) < (b.length : Nat) by omega), bin_lss, decide_eq_true c2]
      · by_cases c3 : 2147483647 < gen
        · simp -implicitDefEqProofs only [↓RK, RK, ↓RB, RB, decide_true, decide_false, STs, Nat.reduceBEq, ↓reduceIte, Nat.reduceLT, ↓R69, R69, hx.len, bin_gtr, decide_eq_false (show ¬ (8192 : Int) < (b.length : Nat) by omega), bin_lss, decide_eq_false c2, decide_eq_true c3]
        · have c4 : at' < 0 := by omega
          simp -implicitDefEqProofs only [↓RK, RK, ↓RB, RB, decide_true, decide_false, STs, Nat.reduceBEq, ↓reduceIte, Nat.reduceLT, ↓R69, R69, hx.len, bin_gtr, decide_eq_false (show ¬ (8192 : Int) < (b.length : Nat) by omega), bin_lss, decide_eq_false c2, decide_eq_false c3, decide_eq_true c4]
  rw [if_neg q1]
  have e1 : decide ((8192 : Int) < (b.length : Nat)) = false := decide_eq_false (by omega)
  have e2 : decide (gen < 0) = false := decide_eq_false (by omega)
  have e3 : decide (2147483647 < gen) = false := decide_eq_false (by omega)
  have e4 : decide (at' < 0) = false := decide_eq_false (by omega)
  obtain ⟨y, h1, s1, a1, k1⟩ := sectors_ok hx (by omega) gen h (k + 2) (by omega)
  have el := entryOf_length gen b
  have D1 := D.fresh k1
  have up1 := up.keep k1
  have q56 := rend_ok D1 e false (k + 2)
  have ln := a1.rw.len
  rw [el] at ln
  have kk1 := k1.up up
  by_cases q5 : min e d.lasts.length < at' ∨ min e d.lasts.length - at' < nOf b
  · rw [if_pos q5]
    refine ⟨h1, exFn_of e69 ?_, D1, kk1⟩
    rw [fnK, n0, s69]
    by_cases c1 : min e d.lasts.length < at'
    · simp -implicitDefEqProofs only [↓RK, RK, ↓RB, RB, decide_true, decide_false, STs, Nat.reduceBEq, ↓reduceIte, Nat.reduceLT, ↓R69, R69, hx.len, bin_gtr, e1, bin_lss, e2, e3, e4, s1, q56, decide_eq_true c1]
    · have c2 := q5.resolve_left c1
      have ws : IntKind.i64.wrap (min e d.lasts.length - at') = min e d.lasts.length - at' := by rw [wrap_i64] <;> omega
      simp -implicitDefEqProofs only [↓RK, RK, ↓RB, RB, decide_true, decide_false, STs, Nat.reduceBEq, ↓reduceIte, Nat.reduceLT, ↓R69, R69, hx.len, bin_gtr, e1, bin_lss, e2, e3, e4, s1, q56, decide_eq_false c1, ln, bin_sub, ws, decide_eq_true c2]
  rw [if_neg q5]
  have e5 : decide (min e d.lasts.length < at') = false := decide_eq_false (by omega)
  have e6 : decide (min e d.lasts.length - at' < nOf b) = false := decide_eq_false (by omega)
  have ws : IntKind.i64.wrap (min e d.lasts.length - at') = min e d.lasts.length - at' := by rw [wrap_i64] <;> omega
  have hpos := nOf_pos' b
  obtain ⟨a, rfl⟩ : ∃ a : Nat, at' = a := ⟨at'.toNat, by omega⟩
  have hsz := rlayLoop_sz (a : Int) b (nOf b - 1) 1 d
  obtain ⟨h2, tm, f1, f2, f3, f4⟩ := rlay_loop (S := S) (p := p) (r := r) a1.rw (b := b) (fun j j1 j2 => entryOf_get _ _ _ j1 (by rw [el] at j2; exact j2)) a k (by rw [el]; omega) (nOf b - 1) 1 (k + 3) d h1 (by omega) (by rw [el]; omega) (by omega) up1 D1 (by omega) hf
  rw [el, show ((1 : Nat) : Int) = 1 from rfl] at f1
  generalize rlayLoop (a : Int) b (nOf b - 1) 1 d = L at *
  obtain ⟨le, ld⟩ := L
  simp only at f1 f2 f3 hsz ⊢
  have kk2 := kk1.trans f4
  by_cases z1 : le = 0
  case neg =>
    obtain rfl := f2 z1
    rw [if_pos z1]
    refine ⟨h2, exFn_of e69 ?_, f3, kk2⟩
    rw [fnK, n0, s69]
    simp -implicitDefEqProofs only [↓RK, RK, ↓RB, RB, decide_true, decide_false, STs, Nat.reduceBEq, ↓reduceIte, Nat.reduceLT, ↓R69, R69, hx.len, bin_gtr, e1, bin_lss, e2, e3, e4, s1, q56, e5, ln, bin_sub, ws, e6]
    rw [f1, if_neg z1]
    simp -implicitDefEqProofs only [↓RK, RK, ↓RB, RB, decide_true, decide_false, STs, Nat.reduceBEq, ↓reduceIte, Nat.reduceLT]
  subst z1
  rw [if_neg (fun h => h rfl)]
  have c0 : decide ((0 : Int) ≠ 0) = false := by decide
  have up2 := up1.keep f4
  obtain ⟨h3, g1, g2, g3⟩ := rflush_ok f3 (by omega) (by omega) false (k + 2) (by omega)
  have ffz := rflush_fuse ld
  have flo := rflush_loose ld
  generalize ld.rflush = F at *
  obtain ⟨fe, fd⟩ := F
  simp only at g1 g2 ffz flo ⊢
  have up3 := up2.keep g3
  have kk3 := kk2.trans g3
  by_cases z2 : fe = 0
  case neg =>
    rw [if_pos z2]
    refine ⟨h3, exFn_of e69 ?_, g2, kk3⟩
    rw [fnK, n0, s69]
    simp -implicitDefEqProofs only [↓RK, RK, ↓RB, RB, decide_true, decide_false, STs, Nat.reduceBEq, ↓reduceIte, Nat.reduceLT, ↓R69, R69, hx.len, bin_gtr, e1, bin_lss, e2, e3, e4, s1, q56, e5, ln, bin_sub, ws, e6]
    rw [f1, if_pos rfl]
    simp -implicitDefEqProofs only [↓RK, RK, ↓RB, RB, decide_true, decide_false, STs, Nat.reduceBEq, ↓reduceIte, Nat.reduceLT, ↓R69, R69, g1, neq27, decide_eq_true z2]
  subst z2
  rw [if_neg (fun h => h rfl)]
  obtain ⟨v0, iv0, bv0⟩ := a1.rw.idx (entryOf_head gen b)
  rw [show ((0 : Nat) : Int) = 0 from rfl] at iv0
  obtain ⟨h4, w1, w2, w3⟩ := rwrite_ok g2 up3 (a : Int) (U := fun _ => False) (.inl bv0) (fun _ _ h => h.elim) (by omega) (by omega) k
  have wlo := rwrite_loose fd (a : Int) (pad (head16 (BitVec.ofInt 32 gen) b))
  have wfz := rwrite_fuse fd (a : Int) (pad (head16 (BitVec.ofInt 32 gen) b))
  generalize fd.rwrite (a : Int) (pad (head16 (BitVec.ofInt 32 gen) b)) = W at *
  obtain ⟨we, wd⟩ := W
  simp only at w1 w2 wlo wfz ⊢
  have up4 := up3.keep w3
  have kk4 := kk3.trans w3
  by_cases z3 : we = 0
  case neg =>
    rw [if_pos z3]
    refine ⟨h4, exFn_of e69 ?_, w2, kk4⟩
    rw [fnK, n0, s69]
    simp -implicitDefEqProofs only [↓RK, RK, ↓RB, RB, decide_true, decide_false, STs, Nat.reduceBEq, ↓reduceIte, Nat.reduceLT, ↓R69, R69, hx.len, bin_gtr, e1, bin_lss, e2, e3, e4, s1, q56, e5, ln, bin_sub, ws, e6]
    rw [f1, if_pos rfl]
    simp -implicitDefEqProofs only [↓RK, RK, ↓RB, RB, decide_true, decide_false, STs, Nat.reduceBEq, ↓reduceIte, Nat.reduceLT, ↓R69, R69, g1, neq27, c0, iv0, load22, w1, decide_eq_true z3]
  subst z3
  rw [if_neg (fun h => h rfl)]
  obtain ⟨h5, g5, g6, g7⟩ := rflush_ok w2 (by omega) (by omega) false (k + 2) (by omega)
  generalize wd.rflush = G at *
  obtain ⟨ge, gd⟩ := G
  simp only at g5 g6 ⊢
  have kk5 := kk4.trans g7
  by_cases z4 : ge = 0
  case neg =>
    rw [if_pos z4]
    refine ⟨h5, exFn_of e69 ?_, g6, kk5⟩
    rw [fnK, n0, s69]
    simp -implicitDefEqProofs only [↓RK, RK, ↓RB, RB, decide_true, decide_false, STs, Nat.reduceBEq, ↓reduceIte, Nat.reduceLT, ↓R69, R69, hx.len, bin_gtr, e1, bin_lss, e2, e3, e4, s1, q56, e5, ln, bin_sub, ws, e6]
    rw [f1, if_pos rfl]
    simp -implicitDefEqProofs only [↓RK, RK, ↓RB, RB, decide_true, decide_false, STs, Nat.reduceBEq, ↓reduceIte, Nat.reduceLT, ↓R69, R69, g1, neq27, c0, iv0, load22, w1, g5, decide_eq_true z4]
  subst z4
  rw [if_neg (fun h => h rfl)]
  have wn : IntKind.i64.wrap ((a : Int) + (nOf b : Int)) = (a : Int) + nOf b := by rw [wrap_i64] <;> omega
  refine ⟨h5, exFn_of e69 ?_, g6, kk5⟩
  rw [fnK, n0, s69]
  simp -implicitDefEqProofs only [↓RK, RK, ↓RB, RB, decide_true, decide_false, STs, Nat.reduceBEq, ↓reduceIte, Nat.reduceLT, ↓R69, R69, hx.len, bin_gtr, e1, bin_lss, e2, e3, e4, s1, q56, e5, ln, bin_sub, ws, e6]
  rw [f1, if_pos rfl]
  simp -implicitDefEqProofs only [↓RK, RK, ↓RB, RB, decide_true, decide_false, STs, Nat.reduceBEq, ↓reduceIte, Nat.reduceLT, ↓R69, R69, g1, neq27, c0, iv0, load22, w1, g5, ln, bin_add, wn]
end Go.Ax

set_option linter.unusedVariables false
namespace Go.Ax
open Go Go.Proofs
noncomputable def O31 (i : Nat) : Array Oper := opsOf i (bodyOf Try.f31)
theorem s31 : bodyOf Try.f31 = (.seq (.region 0 (O31 0) false) (.seq (.seq (.region 1 (O31 1) false) (.cond (Go.Operand.tmp 14) (.seq (.region 2 (O31 2) false) .ret) .skip)) (.seq (.region 3 (O31 3) false) (.seq (.seq (.region 4 (O31 4) false) (.cond (Go.Operand.tmp 18) (.seq (.seq (.region 5 (O31 5) false) (.seq (.region 6 (O31 6) false) (.cond (Go.Operand.tmp 22) (.seq (.region 7 (O31 7) false) .ret) .skip))) (.region 8 (O31 8) false)) .skip)) (.seq (.region 9 (O31 9) false) (.seq (.region 10 (O31 10) false) (.seq (.seq (.region 11 (O31 11) false) (.seq (.region 12 (O31 12) false) (.cond (Go.Operand.tmp 43) (.seq (.region 13 (O31 13) false) .ret) .skip))) (.seq (.region 14 (O31 14) false) .ret)))))))) := by kernel_rfl
theorem e31 : E0 31 = some ⟨51, [2, 3, 4], bodyOf Try.f31⟩ := by kernel_rfl
theorem r31_0 (x0 : AV) : RR O31 31 51 0 false [(0, x0)] fun _ call md k h =>
 k .normal (st 51 [(0, x0)]) h
 := fun _ _ _ _ _ _ => by kernel_rfl
theorem r31_1 (x0 : AV) : RR O31 31 51 1 false [(0, x0)] fun _ call md k h =>
 bnd2 (call md 46 [x0] h) fun v1 h2 =>
 bnd (aBinC tab .lss 3 v1 (.int .i64 4) true) fun v3 =>
 k .normal (st 51 [(0, x0), (14, v3)]) h2
 := fun _ _ _ _ _ _ => by kernel_rfl
theorem r31_2 (x0 x14 : AV) : RR O31 31 51 2 false [(0, x0), (14, x14)] fun _ call md k h =>
 k .normal (st 51 [(2, .nilp), (3, .nils), (4, (.int .i64 1))]) h
 := fun _ _ _ _ _ _ => by kernel_rfl
theorem r31_3 (x0 x14 : AV) : RR O31 31 51 3 false [(0, x0), (14, x14)] fun _ call md k h =>
 bnd2 (call md 59 [x0] h) fun v1 h2 =>
 k .normal (st 51 [(0, x0), (5, v1)]) h2
 := fun _ _ _ _ _ _ => by kernel_rfl
theorem r31_4 (x0 x5 : AV) : RR O31 31 51 4 false [(0, x0), (5, x5)] fun _ call md k h =>
 bnd (aBinC tab .eql 3 x5 (.int .i64 0) true) fun v1 =>
 k .normal (st 51 [(0, x0), (5, x5), (18, v1)]) h
 := fun _ _ _ _ _ _ => by kernel_rfl
theorem r31_5 (x0 x5 x18 : AV) : RR O31 31 51 5 false [(0, x0), (5, x5), (18, x18)] fun _ call md k h =>
 bnd2 (call md 60 [x0] h) fun v1 h2 =>
 k .normal (st 51 [(0, x0), (6, v1)]) h2
 := fun _ _ _ _ _ _ => by kernel_rfl
theorem r31_6 (x0 x6 : AV) : RR O31 31 51 6 false [(0, x0), (6, x6)] fun _ call md k h =>
 bnd (aBinC tab .neq 27 x6 (.int .i64 0) true) fun v1 =>
 k .normal (st 51 [(0, x0), (6, x6), (22, v1)]) h
 := fun _ _ _ _ _ _ => by kernel_rfl
theorem r31_7 (x0 x6 x22 : AV) : RR O31 31 51 7 false [(0, x0), (6, x6), (22, x22)] fun _ call md k h =>
 k .normal (st 51 [(2, .nilp), (3, .nils), (4, x6)]) h
 := fun _ _ _ _ _ _ => by kernel_rfl
theorem r31_8 (x0 x6 x22 : AV) : RR O31 31 51 8 false [(0, x0), (6, x6), (22, x22)] fun _ call md k h =>
 k .normal (st 51 [(0, x0), (5, (.int .i64 1))]) h
 := fun _ _ _ _ _ _ => by kernel_rfl
theorem r31_9a (x0 x5 x18 : AV) : RR O31 31 51 9 false [(0, x0), (5, x5), (18, x18)] fun _ call md k h =>
 bnd2 (call md 61 [x0, x5] h) fun v1 h2 =>
 bnd (aExtract v1 0) fun v3 =>
 bnd (aExtract v1 1) fun v4 =>
 k .normal (st 51 [(0, x0), (5, x5), (7, v3), (8, v4)]) h2
 := fun _ _ _ _ _ _ => by kernel_rfl
theorem r31_9b (x0 x5 : AV) : RR O31 31 51 9 false [(0, x0), (5, x5)] fun _ call md k h =>
 bnd2 (call md 61 [x0, x5] h) fun v1 h2 =>
 bnd (aExtract v1 0) fun v3 =>
 bnd (aExtract v1 1) fun v4 =>
 k .normal (st 51 [(0, x0), (5, x5), (7, v3), (8, v4)]) h2
 := fun _ _ _ _ _ _ => by kernel_rfl
theorem r31_10 (x0 x5 x7 x8 : AV) : RR O31 31 51 10 false [(0, x0), (5, x5), (7, x7), (8, x8)] fun _ call md k h =>
 bnd2 (call md 15 [x0, x7, x8, x5] h) fun v1 h2 =>
 bnd (aExtract v1 0) fun v3 =>
 bnd (aExtract v1 1) fun v4 =>
 k .normal (st 51 [(0, x0), (5, x5), (8, x8), (9, v3), (10, v4)]) h2
 := fun _ _ _ _ _ _ => by kernel_rfl
theorem r31_11 (x0 x5 x8 x9 x10 : AV) : RR O31 31 51 11 false [(0, x0), (5, x5), (8, x8), (9, x9), (10, x10)] fun _ call md k h =>
 bnd2 (call md 19 [x0, x10, x8] h) fun v1 h2 =>
 k .normal (st 51 [(0, x0), (5, x5), (9, x9), (10, x10), (11, v1)]) h2
 := fun _ _ _ _ _ _ => by kernel_rfl
theorem r31_12 (x0 x5 x9 x10 x11 : AV) : RR O31 31 51 12 false [(0, x0), (5, x5), (9, x9), (10, x10), (11, x11)] fun _ call md k h =>
 bnd (aBinC tab .neq 27 x11 (.int .i64 0) true) fun v1 =>
 k .normal (st 51 [(0, x0), (5, x5), (9, x9), (10, x10), (11, x11), (43, v1)]) h
 := fun _ _ _ _ _ _ => by kernel_rfl
theorem r31_13 (x0 x5 x9 x10 x11 x43 : AV) : RR O31 31 51 13 false [(0, x0), (5, x5), (9, x9), (10, x10), (11, x11), (43, x43)] fun _ call md k h =>
 k .normal (st 51 [(2, .nilp), (3, .nils), (4, x11)]) h
 := fun _ _ _ _ _ _ => by kernel_rfl
theorem r31_14 (x0 x5 x9 x10 x11 x43 : AV) : RR O31 31 51 14 false [(0, x0), (5, x5), (9, x9), (10, x10), (11, x11), (43, x43)] fun _ call md k h =>
 bnd (aBuild tab 104 [(0, x0), (1, x5), (2, x10)]) fun v1 =>
 bnd2 (aBoxv tab 104 v1 h) fun v2 h3 =>
 k .normal (st 51 [(2, v2), (3, x9), (4, (.int .i64 0))]) h3
 := fun _ _ _ _ _ _ => by kernel_rfl
def R31 := And.intro @r31_0 <| And.intro @r31_1 <| And.intro @r31_2 <| And.intro @r31_3 <| And.intro @r31_4 <| And.intro @r31_5 <| And.intro @r31_6 <| And.intro @r31_7 <| And.intro @r31_8 <| And.intro @r31_9a <| And.intro @r31_9b <| And.intro @r31_10 <| And.intro @r31_11 <| And.intro @r31_12 <| And.intro @r31_13 <| @r31_14
end Go.Ax

namespace Go.Ax
open Go Go.Proofs
theorem Sane.loose {d : Dk} (s : Sane d) : d.loose.length < 2 ^ 20 := by have := s.few; omega
theorem format_ok {S : Obs} {p r : Nat} {h : Heap} {d : Dk} (D : Dsk S h p r d) (up : Up S h) (hn : 2 ≤ d.lasts.length) (s : Sane d) (k : Nat) (hk : 10300 < k) :
    ∃ h', exFn C0 E0 (k + 1) false 60 [dp p] h = some (.int .i64 d.format.1, h') ∧ Dsk S h' p r d.format.2 ∧ Keep S h h' := by
  obtain ⟨k, rfl⟩ : ∃ j, k = j + 2 := ⟨k - 2, by omega⟩
  have few := s.few
  have bk := bounds_ok D hn 1 (by omega) false k
  rw [show ((1 : Nat) : Int) = 1 from rfl] at bk
  obtain ⟨h1, c1, c2, c3⟩ := clean_ok D up (by omega) s.fuse (fromOf d.lasts.length 1 : Nat) (toOf d.lasts.length 1 : Nat) (k + 1) (by omega)
  obtain ⟨s1, sl, -, -⟩ := clean_st (a := (fromOf d.lasts.length 1 : Nat)) (e := (toOf d.lasts.length 1 : Nat)) s
  unfold Dk.format
  generalize d.clean (fromOf d.lasts.length 1 : Nat) (toOf d.lasts.length 1 : Nat) = C at *
  obtain ⟨ce, cd⟩ := C
  simp only at *
  have n0 : ([dp p] ++ List.replicate (20 - [dp p].length) AV.undef) = st 20 [(0, dp p)] := rfl
  by_cases z : ce = 0
  · subst z
    have few1 := s1.few
    obtain ⟨h2, i1, i2, i3⟩ := install_ok c2 (up.keep c3) (by omega) s1.fuse 1 (by omega) (k + 1) (by omega)
    rw [show ((1 : Nat) : Int) = 1 from rfl] at i1
    have c0 : decide ((0 : Int) ≠ 0) = false := by decide
    rw [if_neg (by decide)]
    refine ⟨h2, exFn_of e60 ?_, i2, c3.trans i3⟩
    rw [fnK, n0, s60]
    simp -implicitDefEqProofs only [↓RK, RK, ↓RB, RB, decide_true, decide_false, STs, Nat.reduceBEq, ↓reduceIte, Nat.reduceLT, ↓R60, R60, bk, ext0, ext1, c1, neq27, c0, i1]
  · rw [if_pos z]
    have c0 : decide (ce ≠ 0) = true := decide_eq_true z
    refine ⟨h1, exFn_of e60 ?_, c2, c3⟩
    rw [fnK, n0, s60]
    simp -implicitDefEqProofs only [↓RK, RK, ↓RB, RB, decide_true, decide_false, STs, Nat.reduceBEq, ↓reduceIte, Nat.reduceLT, ↓R60, R60, bk, ext0, ext1, c1, neq27, c0]
structure Wl where
  d : Dk
  gen : Nat
  pos : Int
  down : Bool
def Dk.wopen (d : Dk) : Int × Wl × List (List UInt8) :=
  let n := d.lasts.length
  let g := newest d.now
  let f := if g = 0 then d.format else (0, d)
  if f.1 ≠ 0 then (f.1, ⟨f.2, 0, 0, false⟩, [])
  else
    let gen := if g = 0 then 1 else g
    let sc := f.2.scan (fromOf n gen : Nat) (toOf n gen : Nat) gen
    let c := f.2.clean sc.2 (toOf n gen : Nat)
    if c.1 ≠ 0 then (c.1, ⟨c.2, 0, 0, false⟩, []) else (0, ⟨c.2, gen, sc.2, false⟩, sc.1)
def lv (p gen : Nat) (pos : Int) (w : Bool) : Obj := .var 104 (.agg 103 [dp p, .int .i64 gen, .int .i64 pos, .bool w])
abbrev lp (q : Nat) : AV := .ref q [] 103
structure Lsk (S : Obs) (h : Heap) (q p r : Nat) (w : Wl) : Prop where
  hq : S q
  var : h[q]? = some (lv p w.gen w.pos w.down)
  dsk : Dsk (fun i => S i ∧ i ≠ q) h p r w.d
theorem bld104 (p gen : Nat) (pos : Int) : aBuild tab 104 [(0, dp p), (1, .int .i64 gen), (2, .int .i64 pos)] = some (.agg 103 [dp p, .int .i64 gen, .int .i64 pos, .bool false]) := by kernel_rfl
theorem box104 (p gen : Nat) (pos : Int) (h : Heap) : aBoxv tab 104 (.agg 103 [dp p, .int .i64 gen, .int .i64 pos, .bool false]) h = some (lp h.length, h ++ [lv p gen pos false]) := by
  simp [aBoxv, fits, lv]
theorem on31 (p : Nat) : ([dp p] ++ List.replicate (51 - [dp p].length) AV.undef) = st 51 [(0, dp p)] := rfl
theorem open_small {S : Obs} {p r : Nat} {h : Heap} {d : Dk} (D : Dsk S h p r d) (hn : d.lasts.length < 4) (k : Nat) : exFn C0 E0 (k + 2) false 31 [dp p] h = some (.tuple [.nilp, .nils, .int .i64 1], h) := by
  refine exFn_of e31 ?_
  have e1 : decide (((d.lasts.length : Nat) : Int) < 4) = true := decide_eq_true (by omega)
  rw [fnK, on31, s31]
  simp -implicitDefEqProofs only [↓RK, RK, ↓RB, RB, decide_true, decide_false, STs, Nat.reduceBEq, ↓reduceIte, Nat.reduceLT, ↓R31, R31, len_ok D, bin_lss, e1, results, List.map_cons, List.map_nil, st_getD]
theorem open_tail {S : Obs} {p r : Nat} {h : Heap} {f : Dk} (D : Dsk S h p r f) (up : Up S h) (hn : 2 ≤ f.lasts.length) (s : Sane f) (gen : Nat) (hg : gen ≤ 2147483647) (k : Nat) (hk : 10400 < k) :
    ∃ x h1 h2, exFn C0 E0 (k + 2) false 61 [dp p, .int .i64 gen] h = some (.tuple [.int .i64 (fromOf f.lasts.length gen : Nat), .int .i64 (toOf f.lasts.length gen : Nat)], h) ∧
      exFn C0 E0 (k + 2) false 15 [dp p, .int .i64 (fromOf f.lasts.length gen : Nat), .int .i64 (toOf f.lasts.length gen : Nat), .int .i64 gen] h = some (.tuple [x, .int .i64 (f.scan (fromOf f.lasts.length gen : Nat) (toOf f.lasts.length gen : Nat) gen).2], h1) ∧
      exFn C0 E0 (k + 2) false 19 [dp p, .int .i64 (f.scan (fromOf f.lasts.length gen : Nat) (toOf f.lasts.length gen : Nat) gen).2, .int .i64 (toOf f.lasts.length gen : Nat)] h1 =
        some (.int .i64 (f.clean (f.scan (fromOf f.lasts.length gen : Nat) (toOf f.lasts.length gen : Nat) gen).2 (toOf f.lasts.length gen : Nat)).1, h2) ∧
      Dsk S h2 p r (f.clean (f.scan (fromOf f.lasts.length gen : Nat) (toOf f.lasts.length gen : Nat) gen).2 (toOf f.lasts.length gen : Nat)).2 ∧ Keep S h h2 ∧
      ApR (From h.length) h2 x (f.scan (fromOf f.lasts.length gen : Nat) (toOf f.lasts.length gen : Nat) gen).1 := by
  have few := s.few
  have bk := bounds_ok D hn gen (by omega) false k
  obtain ⟨x, h1, s1, s2, k1⟩ := scan_ok D (by omega) (fromOf f.lasts.length gen : Nat) (toOf f.lasts.length gen : Nat) gen (k + 1) (by omega)
  generalize f.scan (fromOf f.lasts.length gen : Nat) (toOf f.lasts.length gen : Nat) gen = sc at *
  have hk1 := k1.1
  have D1 : Dsk (fun i => S i ∧ ¬ (h.length ≤ i ∧ i < h1.length)) h1 p r f := (D.cap.fresh k1).mono fun i hi => ⟨hi.1, fun x => by have := hi.2; omega⟩
  have up1 : Up (fun i => S i ∧ ¬ (h.length ≤ i ∧ i < h1.length)) h1 := fun i hi => ⟨up i (by omega), fun x => by omega⟩
  obtain ⟨h2, c1, c2, c3⟩ := clean_ok D1 up1 (by omega) s.fuse sc.2 (toOf f.lasts.length gen : Nat) (k + 1) (by omega)
  refine ⟨x, h1, h2, bk, s1, c1, c2.mono fun i hi => hi.1, (k1.up up).trans (c3.mono fun i hi => hi.1), ?_⟩
  obtain ⟨vs, ha, hf⟩ := s2
  exact ⟨vs, ha.keep c3 fun i hi hs hx => hx.2 ⟨hs, hi⟩, hf⟩
theorem Lsk.new {S : Obs} {h : Heap} {p r gen : Nat} {pos : Int} {d : Dk} (D : Dsk S h p r d) (up : Up S h) : Lsk S (h ++ [lv p gen pos false]) h.length p r ⟨d, gen, pos, false⟩ := by
  refine ⟨up _ (Nat.le_refl _), by simp, ?_⟩
  exact (D.cap.keep (U := From h.length) (Keep.app h _ (Up.fresh h)) fun i hi _ hj => Nat.not_le.2 hi hj).mono fun i hi => ⟨hi.1, by have := hi.2; omega⟩
theorem open_ok {S : Obs} {p r : Nat} {h : Heap} {d : Dk} (D : Dsk S h p r d) (up : Up S h) (hn : 4 ≤ d.lasts.length) (s : Sane d) (k : Nat) (hk : 10410 < k) :
    ∃ h' l x, exFn C0 E0 (k + 1) false 31 [dp p] h = some (.tuple [l, x, .int .i64 d.wopen.1], h') ∧ Keep S h h' ∧ Dsk S h' p r d.wopen.2.1.d ∧
      (d.wopen.1 = 0 → ∃ q, l = lp q ∧ h.length ≤ q ∧ q < h'.length ∧ Lsk S h' q p r d.wopen.2.1 ∧ ApR (fun i => h.length ≤ i ∧ i < h'.length ∧ i ≠ q) h' x d.wopen.2.2) ∧ (d.wopen.1 ≠ 0 → l = .nilp ∧ x = .nils) := by
  obtain ⟨k, rfl⟩ : ∃ j, k = j + 2 := ⟨k - 2, by omega⟩
  have few := s.few
  have hlen := s.len
  have e1 : decide (((d.lasts.length : Nat) : Int) < 4) = false := decide_eq_false (by omega)
  obtain ⟨h1, g1, k1⟩ := newest_ok D (by omega) (by omega) (k + 1) (by omega)
  have hng := newest_lt d.now
  have D1 := D.fresh k1
  have up1 := up.keep k1
  have kk1 := k1.up up
  have hk1 := k1.1
  have z0 : decide ((0 : Int) ≠ 0) = false := by decide
  have apr : ∀ {h2 h4 : Heap} {x : AV} {ls : List (List UInt8)} {o : Obj}, h.length ≤ h2.length → ApR (From h2.length) h4 x ls → ApR (fun i => h.length ≤ i ∧ i < (h4 ++ [o]).length ∧ i ≠ h4.length) (h4 ++ [o]) x ls := by
    intro h2 h4 x ls o hle ⟨vs, ha, hf⟩
    refine ⟨vs, ?_, hf⟩
    rcases ha with a | ⟨kk, hx, a | ⟨r, g, hk, hr, hg⟩⟩
    · exact .inl a
    · exact .inr ⟨kk, hx, .inl a⟩
    · have hlt := (List.getElem?_eq_some_iff.1 hg).1
      have hr' : h2.length ≤ r := hr
      exact .inr ⟨kk, hx, .inr ⟨r, g, hk, ⟨by omega, by simp; omega, by omega⟩, by rw [List.getElem?_append_left hlt]; exact hg⟩⟩
  unfold Dk.wopen
  by_cases q : newest d.now = 0
  case neg =>
    have e2 : decide (((newest d.now : Nat) : Int) = 0) = false := decide_eq_false (by omega)
    simp only [if_neg q, ne_eq, not_true_eq_false, if_false]
    obtain ⟨x, h3, h4, bk, s1, c1, D4, k4, a4⟩ := open_tail D1 up1 (by omega) s (newest d.now) hng k (by omega)
    generalize d.scan (fromOf d.lasts.length (newest d.now) : Nat) (toOf d.lasts.length (newest d.now) : Nat) (newest d.now : Nat) = sc at *
    generalize d.clean sc.2 (toOf d.lasts.length (newest d.now) : Nat) = C at *
    obtain ⟨ce, cd⟩ := C
    simp only at *
    by_cases z : ce = 0
    · subst z
      simp only [not_true_eq_false, if_false]
      refine ⟨h4 ++ [lv p (newest d.now) sc.2 false], lp h4.length, x, exFn_of e31 ?_, (kk1.trans k4).trans (Keep.app h4 _ (up1.keep k4)), D4.fresh (Keep.app h4 _ (Up.fresh h4)),
        fun _ => ⟨h4.length, rfl, by have := k4.1; omega, by simp, Lsk.new D4 (up1.keep k4), apr hk1 a4⟩, fun h => h.elim⟩
      rw [fnK, on31, s31]
      simp -implicitDefEqProofs only [↓RK, RK, ↓RB, RB, decide_true, decide_false, STs, Nat.reduceBEq, ↓reduceIte, Nat.reduceLT, ↓R31, R31, len_ok D, bin_lss, e1, g1, bin_eql, e2, bk, ext0, ext1, s1, c1, neq27, z0, bld104, box104, results, List.map_cons, List.map_nil, st_getD]
    · simp only [z, not_false_eq_true, if_true]
      refine ⟨h4, .nilp, .nils, exFn_of e31 ?_, kk1.trans k4, D4, fun h => h.elim, fun _ => ⟨rfl, rfl⟩⟩
      have z1 : decide (ce ≠ 0) = true := decide_eq_true z
      rw [fnK, on31, s31]
      simp -implicitDefEqProofs only [↓RK, RK, ↓RB, RB, decide_true, decide_false, STs, Nat.reduceBEq, ↓reduceIte, Nat.reduceLT, ↓R31, R31, len_ok D, bin_lss, e1, g1, bin_eql, e2, bk, ext0, ext1, s1, c1, neq27, z1, results, List.map_cons, List.map_nil, st_getD]
  · have e2 : decide (((newest d.now : Nat) : Int) = 0) = true := decide_eq_true (by omega)
    simp only [if_pos q]
    obtain ⟨h2, f1, D2, k2⟩ := format_ok D1 up1 (by omega) s (k + 1) (by omega)
    obtain ⟨s2, sl2, -, -⟩ := format_st s (by omega)
    generalize d.format = F at *
    obtain ⟨fe, fd⟩ := F
    simp only at *
    have up2 := up1.keep k2
    by_cases y : fe = 0
    case neg =>
      simp only [y, ne_eq, not_false_eq_true, if_true]
      refine ⟨h2, .nilp, .nils, exFn_of e31 ?_, kk1.trans k2, D2, fun h => h.elim, fun _ => ⟨rfl, rfl⟩⟩
      have z1 : decide (fe ≠ 0) = true := decide_eq_true y
      rw [fnK, on31, s31]
      simp -implicitDefEqProofs only [↓RK, RK, ↓RB, RB, decide_true, decide_false, STs, Nat.reduceBEq, ↓reduceIte, Nat.reduceLT, ↓R31, R31, len_ok D, bin_lss, e1, g1, bin_eql, e2, f1, neq27, z1, results, List.map_cons, List.map_nil, st_getD]
    subst y
    simp only [ne_eq, not_true_eq_false, if_false]
    obtain ⟨x, h3, h4, bk, s1, c1, D4, k4, a4⟩ := open_tail D2 up2 (by omega) s2 1 (by omega) k (by omega)
    rw [sl2] at bk s1 c1 D4 a4
    rw [show ((1 : Nat) : Int) = 1 from rfl] at bk s1 c1 D4 a4 ⊢
    generalize fd.scan (fromOf d.lasts.length 1 : Nat) (toOf d.lasts.length 1 : Nat) 1 = sc at *
    generalize fd.clean sc.2 (toOf d.lasts.length 1 : Nat) = C at *
    obtain ⟨ce, cd⟩ := C
    simp only at *
    have k24 := k2.trans k4
    by_cases z : ce = 0
    · subst z
      simp only [not_true_eq_false, if_false]
      refine ⟨h4 ++ [lv p 1 sc.2 false], lp h4.length, x, exFn_of e31 ?_, (kk1.trans k24).trans (Keep.app h4 _ (up1.keep k24)), D4.fresh (Keep.app h4 _ (Up.fresh h4)),
        fun _ => ⟨h4.length, rfl, by have := k24.1; omega, by simp, Lsk.new D4 (up1.keep k24), apr (by have := k2.1; omega) a4⟩, fun h => h.elim⟩
      have bl := bld104 p 1 sc.2
      rw [show ((1 : Nat) : Int) = 1 from rfl] at bl
      have bx := box104 p 1 sc.2 h4
      rw [show ((1 : Nat) : Int) = 1 from rfl] at bx
      rw [fnK, on31, s31]
      simp -implicitDefEqProofs only [↓RK, RK, ↓RB, RB, decide_true, decide_false, STs, Nat.reduceBEq, ↓reduceIte, Nat.reduceLT, ↓R31, R31, len_ok D, bin_lss, e1, g1, bin_eql, e2, f1, bk, ext0, ext1, s1, c1, neq27, z0, bl, bx, results, List.map_cons, List.map_nil, st_getD]
    · simp only [z, not_false_eq_true, if_true]
      refine ⟨h4, .nilp, .nils, exFn_of e31 ?_, kk1.trans k24, D4, fun h => h.elim, fun _ => ⟨rfl, rfl⟩⟩
      have z1 : decide (ce ≠ 0) = true := decide_eq_true z
      rw [fnK, on31, s31]
      simp -implicitDefEqProofs only [↓RK, RK, ↓RB, RB, decide_true, decide_false, STs, Nat.reduceBEq, ↓reduceIte, Nat.reduceLT, ↓R31, R31, len_ok D, bin_lss, e1, g1, bin_eql, e2, f1, bk, ext0, ext1, s1, c1, neq27, z0, z1, results, List.map_cons, List.map_nil, st_getD]
end Go.Ax

set_option linter.unusedVariables false
namespace Go.Ax
open Go Go.Proofs
noncomputable def O33 (i : Nat) : Array Oper := opsOf i (bodyOf Try.f33)
theorem s33 : bodyOf Try.f33 = (.seq (.region 0 (O33 0) false) (.seq (.seq (.region 1 (O33 1) false) (.seq (.region 2 (O33 2) false) (.cond (Go.Operand.tmp 13) (.seq (.region 3 (O33 3) false) .ret) .skip))) (.seq (.region 4 (O33 4) true) (.seq (.region 5 (O33 5) true) (.seq (.seq (.region 6 (O33 6) false) (.cond (Go.Operand.tmp 46) (.region 7 (O33 7) false) .skip)) (.seq (.region 8 (O33 8) false) .ret)))))) := by kernel_rfl
theorem e33 : E0 33 = some ⟨54, [4], bodyOf Try.f33⟩ := by kernel_rfl
theorem r33_0 (x0 x1 : AV) : RR O33 33 54 0 false [(0, x0), (1, x1)] fun _ call md k h =>
 k .normal (st 54 [(0, x0), (1, x1)]) h
 := fun _ _ _ _ _ _ => by kernel_rfl
theorem r33_1 (x0 x1 : AV) : RR O33 33 54 1 false [(0, x0), (1, x1)] fun _ call md k h =>
 bnd2 (call md 64 [x0] h) fun v1 h2 =>
 k .normal (st 54 [(0, x0), (1, x1), (5, v1)]) h2
 := fun _ _ _ _ _ _ => by kernel_rfl
theorem r33_2 (x0 x1 x5 : AV) : RR O33 33 54 2 false [(0, x0), (1, x1), (5, x5)] fun _ call md k h =>
 bnd (aBinC tab .neq 27 x5 (.int .i64 0) true) fun v1 =>
 k .normal (st 54 [(0, x0), (1, x1), (5, x5), (13, v1)]) h
 := fun _ _ _ _ _ _ => by kernel_rfl
theorem r33_3 (x0 x1 x5 x13 : AV) : RR O33 33 54 3 false [(0, x0), (1, x1), (5, x5), (13, x13)] fun _ call md k h =>
 k .normal (st 54 [(4, x5)]) h
 := fun _ _ _ _ _ _ => by kernel_rfl
theorem r33_4 (x0 x1 x5 x13 : AV) : RR O33 33 54 4 true [(0, x0), (1, x1), (5, x5), (13, x13)] fun _ call md k h =>
 bnd (aNil x0) fun v1 =>
 bnd (aFieldAddr tab 104 v1 0) fun v2 =>
 bnd (aLoad tab 25 v2 h) fun v3 =>
 bnd (aNil x0) fun v4 =>
 bnd (aFieldAddr tab 104 v4 1) fun v5 =>
 bnd (aLoad tab 3 v5 h) fun v6 =>
 bnd2 (call md 61 [v3, v6] h) fun v7 h8 =>
 bnd (aExtract v7 0) fun v9 =>
 bnd (aExtract v7 1) fun v10 =>
 k .normal (st 54 [(0, x0), (1, x1), (7, v10)]) h8
 := RRd (by kernel_rfl) (by kernel_rfl) (fun _ _ _ _ _ => by kernel_rfl)
theorem r33_5 (x0 x1 x7 : AV) : RR O33 33 54 5 true [(0, x0), (1, x1), (7, x7)] fun _ call md k h =>
 bnd (aNil x0) fun v1 =>
 bnd (aFieldAddr tab 104 v1 0) fun v2 =>
 bnd (aLoad tab 25 v2 h) fun v3 =>
 bnd (aNil x0) fun v4 =>
 bnd (aFieldAddr tab 104 v4 2) fun v5 =>
 bnd (aLoad tab 3 v5 h) fun v6 =>
 bnd (aNil x0) fun v7 =>
 bnd (aFieldAddr tab 104 v7 1) fun v8 =>
 bnd (aLoad tab 3 v8 h) fun v9 =>
 bnd2 (call md 14 [v3, v6, x7, v9, x1] h) fun v10 h11 =>
 bnd (aExtract v10 0) fun v12 =>
 bnd (aExtract v10 1) fun v13 =>
 k .normal (st 54 [(0, x0), (8, v12), (9, v13)]) h11
 := RRd (by kernel_rfl) (by kernel_rfl) (fun _ _ _ _ _ => by kernel_rfl)
theorem r33_6 (x0 x8 x9 : AV) : RR O33 33 54 6 false [(0, x0), (8, x8), (9, x9)] fun _ call md k h =>
 bnd (aBinC tab .eql 27 x9 (.int .i64 0) true) fun v1 =>
 k .normal (st 54 [(0, x0), (8, x8), (9, x9), (46, v1)]) h
 := fun _ _ _ _ _ _ => by kernel_rfl
theorem r33_7 (x0 x8 x9 x46 : AV) : RR O33 33 54 7 false [(0, x0), (8, x8), (9, x9), (46, x46)] fun _ call md k h =>
 bnd (aNil x0) fun v1 =>
 bnd (aFieldAddr tab 104 v1 2) fun v2 =>
 bnd (aStore tab 3 v2 x8 h) fun h3 =>
 k .normal (st 54 [(0, x0), (9, x9)]) h3
 := fun _ _ _ _ _ _ => by kernel_rfl
theorem r33_8a (x0 x8 x9 x46 : AV) : RR O33 33 54 8 false [(0, x0), (8, x8), (9, x9), (46, x46)] fun _ call md k h =>
 bnd2 (call md 65 [x0, x9] h) fun v1 h2 =>
 k .normal (st 54 [(4, v1)]) h2
 := fun _ _ _ _ _ _ => by kernel_rfl
theorem r33_8b (x0 x9 : AV) : RR O33 33 54 8 false [(0, x0), (9, x9)] fun _ call md k h =>
 bnd2 (call md 65 [x0, x9] h) fun v1 h2 =>
 k .normal (st 54 [(4, v1)]) h2
 := fun _ _ _ _ _ _ => by kernel_rfl
def R33 := And.intro @r33_0 <| And.intro @r33_1 <| And.intro @r33_2 <| And.intro @r33_3 <| And.intro @r33_4 <| And.intro @r33_5 <| And.intro @r33_6 <| And.intro @r33_7 <| And.intro @r33_8a <| @r33_8b
end Go.Ax

set_option linter.unusedVariables false
namespace Go.Ax
open Go Go.Proofs
noncomputable def O34 (i : Nat) : Array Oper := opsOf i (bodyOf Try.f34)
theorem s34 : bodyOf Try.f34 = (.seq (.region 0 (O34 0) false) (.seq (.seq (.region 1 (O34 1) false) (.cond (Go.Operand.tmp 6) (.seq (.region 2 (O34 2) false) .ret) .skip)) (.seq (.region 3 (O34 3) true) (.seq (.region 4 (O34 4) false) .ret)))) := by kernel_rfl
theorem e34 : E0 34 = some ⟨25, [2], bodyOf Try.f34⟩ := by kernel_rfl
theorem r34_0 (x0 : AV) : RR O34 34 25 0 false [(0, x0)] fun _ call md k h =>
 k .normal (st 25 [(0, x0)]) h
 := fun _ _ _ _ _ _ => by kernel_rfl
theorem r34_1 (x0 : AV) : RR O34 34 25 1 false [(0, x0)] fun _ call md k h =>
 bnd (aBinC tab .eql 57 x0 .nilp true) fun v1 =>
 k .normal (st 25 [(0, x0), (6, v1)]) h
 := fun _ _ _ _ _ _ => by kernel_rfl
theorem r34_2 (x0 x6 : AV) : RR O34 34 25 2 false [(0, x0), (6, x6)] fun _ call md k h =>
 k .normal (st 25 [(2, (.int .i64 0))]) h
 := fun _ _ _ _ _ _ => by kernel_rfl
theorem r34_3 (x0 x6 : AV) : RR O34 34 25 3 true [(0, x0), (6, x6)] fun _ call md k h =>
 bnd (aNil x0) fun v1 =>
 bnd (aFieldAddr tab 104 v1 0) fun v2 =>
 bnd (aLoad tab 25 v2 h) fun v3 =>
 bnd (aNil x0) fun v4 =>
 bnd (aFieldAddr tab 104 v4 1) fun v5 =>
 bnd (aLoad tab 3 v5 h) fun v6 =>
 bnd2 (call md 61 [v3, v6] h) fun v7 h8 =>
 bnd (aExtract v7 0) fun v9 =>
 bnd (aExtract v7 1) fun v10 =>
 k .normal (st 25 [(0, x0), (3, v9)]) h8
 := RRd (by kernel_rfl) (by kernel_rfl) (fun _ _ _ _ _ => by kernel_rfl)
theorem r34_4 (x0 x3 : AV) : RR O34 34 25 4 false [(0, x0), (3, x3)] fun _ call md k h =>
 bnd (aNil x0) fun v1 =>
 bnd (aFieldAddr tab 104 v1 2) fun v2 =>
 bnd (aLoad tab 3 v2 h) fun v3 =>
 bnd (aBinC tab .sub 3 v3 x3 false) fun v4 =>
 k .normal (st 25 [(2, v4)]) h
 := fun _ _ _ _ _ _ => by kernel_rfl
def R34 := And.intro @r34_0 <| And.intro @r34_1 <| And.intro @r34_2 <| And.intro @r34_3 <| @r34_4
end Go.Ax

set_option linter.unusedVariables false
namespace Go.Ax
open Go Go.Proofs
noncomputable def O35 (i : Nat) : Array Oper := opsOf i (bodyOf Try.f35)
theorem s35 : bodyOf Try.f35 = (.seq (.region 0 (O35 0) false) (.seq (.seq (.region 1 (O35 1) false) (.seq (.region 2 (O35 2) false) (.cond (Go.Operand.tmp 14) (.seq (.region 3 (O35 3) false) .ret) .skip))) (.seq (.region 4 (O35 4) false) (.seq (.region 5 (O35 5) false) (.seq (.block 0 (.seq (.region 6 (O35 6) false) (.cond (Go.Operand.tmp 30) (.seq (.region 7 (O35 7) false) .ret) (.seq (.region 8 (O35 8) false) (.cond (Go.Operand.tmp 34) (.seq (.region 9 (O35 9) false) .ret) .skip))))) (.seq (.region 10 (O35 10) false) (.seq (.seq (.region 11 (O35 11) false) (.cond (Go.Operand.tmp 54) (.seq (.region 12 (O35 12) false) .ret) .skip)) (.seq (.region 13 (O35 13) false) (.seq (.seq (.region 14 (O35 14) false) (.cond (Go.Operand.tmp 71) (.seq (.region 15 (O35 15) false) .ret) .skip)) (.seq (.seq (.region 16 (O35 16) false) (.seq (.region 17 (O35 17) false) (.cond (Go.Operand.tmp 82) (.region 18 (O35 18) false) .skip))) (.seq (.region 19 (O35 19) false) .ret))))))))))) := by kernel_rfl
theorem e35 : E0 35 = some ⟨94, [4], bodyOf Try.f35⟩ := by kernel_rfl
theorem r35_0 (x0 x1 : AV) : RR O35 35 94 0 false [(0, x0), (1, x1)] fun _ call md k h =>
 k .normal (st 94 [(0, x0), (1, x1)]) h
 := fun _ _ _ _ _ _ => by kernel_rfl
theorem r35_1 (x0 x1 : AV) : RR O35 35 94 1 false [(0, x0), (1, x1)] fun _ call md k h =>
 bnd2 (call md 64 [x0] h) fun v1 h2 =>
 k .normal (st 94 [(0, x0), (1, x1), (5, v1)]) h2
 := fun _ _ _ _ _ _ => by kernel_rfl
theorem r35_2 (x0 x1 x5 : AV) : RR O35 35 94 2 false [(0, x0), (1, x1), (5, x5)] fun _ call md k h =>
 bnd (aBinC tab .neq 27 x5 (.int .i64 0) true) fun v1 =>
 k .normal (st 94 [(0, x0), (1, x1), (5, x5), (14, v1)]) h
 := fun _ _ _ _ _ _ => by kernel_rfl
theorem r35_3 (x0 x1 x5 x14 : AV) : RR O35 35 94 3 false [(0, x0), (1, x1), (5, x5), (14, x14)] fun _ call md k h =>
 k .normal (st 94 [(4, x5)]) h
 := fun _ _ _ _ _ _ => by kernel_rfl
theorem r35_4 (x0 x1 x5 x14 : AV) : RR O35 35 94 4 false [(0, x0), (1, x1), (5, x5), (14, x14)] fun _ call md k h =>
 bnd (aNil x0) fun v1 =>
 bnd (aFieldAddr tab 104 v1 1) fun v2 =>
 bnd (aLoad tab 3 v2 h) fun v3 =>
 bnd (aBinC tab .add 3 v3 (.int .i64 1) true) fun v4 =>
 k .normal (st 94 [(0, x0), (1, x1), (6, v4)]) h
 := fun _ _ _ _ _ _ => by kernel_rfl
theorem r35_5 (x0 x1 x6 : AV) : RR O35 35 94 5 false [(0, x0), (1, x1), (6, x6)] fun _ call md k h =>
 bnd (aNil x0) fun v1 =>
 bnd (aFieldAddr tab 104 v1 0) fun v2 =>
 bnd (aLoad tab 25 v2 h) fun v3 =>
 bnd2 (call md 61 [v3, x6] h) fun v4 h5 =>
 bnd (aExtract v4 0) fun v6 =>
 bnd (aExtract v4 1) fun v7 =>
 k .normal (st 94 [(0, x0), (1, x1), (6, x6), (7, v6), (8, v7)]) h5
 := fun _ _ _ _ _ _ => by kernel_rfl
theorem r35_6 (x0 x1 x6 x7 x8 : AV) : RR O35 35 94 6 false [(0, x0), (1, x1), (6, x6), (7, x7), (8, x8)] fun _ call md k h =>
 bnd (aLen tab 22 x1) fun v1 =>
 bnd (aBinC tab .gtr 3 v1 (.int .i64 8192) true) fun v2 =>
 k .normal (st 94 [(0, x0), (1, x1), (6, x6), (7, x7), (8, x8), (30, v2)]) h
 := fun _ _ _ _ _ _ => by kernel_rfl
theorem r35_7 (x0 x1 x6 x7 x8 x30 : AV) : RR O35 35 94 7 false [(0, x0), (1, x1), (6, x6), (7, x7), (8, x8), (30, x30)] fun _ call md k h =>
 k .normal (st 94 [(4, (.int .i64 1))]) h
 := fun _ _ _ _ _ _ => by kernel_rfl
theorem r35_8 (x0 x1 x6 x7 x8 x30 : AV) : RR O35 35 94 8 false [(0, x0), (1, x1), (6, x6), (7, x7), (8, x8), (30, x30)] fun _ call md k h =>
 bnd (aBinC tab .gtr 3 x6 (.int .i64 2147483647) true) fun v1 =>
 gd false v1 h (fun k => k x1 h) fun v2 h3 =>
 gd false v1 h3 (fun k => bnd (aLen tab 22 v2) (k · h3)) fun v4 h5 =>
 gd false v1 h5 (fun k => bnd2 (call md 45 [v4] h5) k) fun v6 h7 =>
 gd false v1 h7 (fun k => k x8 h7) fun v8 h9 =>
 gd false v1 h9 (fun k => k x7 h9) fun v10 h11 =>
 gd false v1 h11 (fun k => bnd (aBinC tab .sub 3 v8 v10 false) (k · h11)) fun v12 h13 =>
 gd false v1 h13 (fun k => bnd (aBinC tab .gtr 3 v6 v12 false) (k · h13)) fun v14 h15 =>
 bnd (aPick v1 (.bool true) v14) fun v16 =>
 k .normal (st 94 [(0, x0), (1, x1), (6, x6), (7, x7), (8, x8), (34, v16)]) h15
 := fun _ _ _ _ _ _ => by kernel_rfl
theorem r35_9 (x0 x1 x6 x7 x8 x34 : AV) : RR O35 35 94 9 false [(0, x0), (1, x1), (6, x6), (7, x7), (8, x8), (34, x34)] fun _ call md k h =>
 k .normal (st 94 [(4, (.int .i64 3))]) h
 := fun _ _ _ _ _ _ => by kernel_rfl
theorem r35_10 (x0 x1 x6 x7 x8 x34 : AV) : RR O35 35 94 10 false [(0, x0), (1, x1), (6, x6), (7, x7), (8, x8), (34, x34)] fun _ call md k h =>
 bnd (aNil x0) fun v1 =>
 bnd (aFieldAddr tab 104 v1 0) fun v2 =>
 bnd (aLoad tab 25 v2 h) fun v3 =>
 bnd2 (call md 19 [v3, x7, x8] h) fun v4 h5 =>
 k .normal (st 94 [(0, x0), (1, x1), (6, x6), (7, x7), (8, x8), (9, v4)]) h5
 := fun _ _ _ _ _ _ => by kernel_rfl
theorem r35_11 (x0 x1 x6 x7 x8 x9 : AV) : RR O35 35 94 11 false [(0, x0), (1, x1), (6, x6), (7, x7), (8, x8), (9, x9)] fun _ call md k h =>
 bnd (aBinC tab .neq 27 x9 (.int .i64 0) true) fun v1 =>
 k .normal (st 94 [(0, x0), (1, x1), (6, x6), (7, x7), (8, x8), (9, x9), (54, v1)]) h
 := fun _ _ _ _ _ _ => by kernel_rfl
theorem r35_12 (x0 x1 x6 x7 x8 x9 x54 : AV) : RR O35 35 94 12 false [(0, x0), (1, x1), (6, x6), (7, x7), (8, x8), (9, x9), (54, x54)] fun _ call md k h =>
 bnd2 (call md 65 [x0, x9] h) fun v1 h2 =>
 k .normal (st 94 [(4, v1)]) h2
 := fun _ _ _ _ _ _ => by kernel_rfl
theorem r35_13 (x0 x1 x6 x7 x8 x9 x54 : AV) : RR O35 35 94 13 false [(0, x0), (1, x1), (6, x6), (7, x7), (8, x8), (9, x9), (54, x54)] fun _ call md k h =>
 bnd (aNil x0) fun v1 =>
 bnd (aFieldAddr tab 104 v1 0) fun v2 =>
 bnd (aLoad tab 25 v2 h) fun v3 =>
 bnd2 (call md 14 [v3, x7, x8, x6, x1] h) fun v4 h5 =>
 bnd (aExtract v4 0) fun v6 =>
 bnd (aExtract v4 1) fun v7 =>
 k .normal (st 94 [(0, x0), (6, x6), (9, v7), (10, v6)]) h5
 := fun _ _ _ _ _ _ => by kernel_rfl
theorem r35_14 (x0 x6 x9 x10 : AV) : RR O35 35 94 14 false [(0, x0), (6, x6), (9, x9), (10, x10)] fun _ call md k h =>
 bnd (aBinC tab .neq 27 x9 (.int .i64 0) true) fun v1 =>
 k .normal (st 94 [(0, x0), (6, x6), (9, x9), (10, x10), (71, v1)]) h
 := fun _ _ _ _ _ _ => by kernel_rfl
theorem r35_15 (x0 x6 x9 x10 x71 : AV) : RR O35 35 94 15 false [(0, x0), (6, x6), (9, x9), (10, x10), (71, x71)] fun _ call md k h =>
 bnd2 (call md 65 [x0, x9] h) fun v1 h2 =>
 k .normal (st 94 [(4, v1)]) h2
 := fun _ _ _ _ _ _ => by kernel_rfl
theorem r35_16 (x0 x6 x9 x10 x71 : AV) : RR O35 35 94 16 false [(0, x0), (6, x6), (9, x9), (10, x10), (71, x71)] fun _ call md k h =>
 bnd (aNil x0) fun v1 =>
 bnd (aFieldAddr tab 104 v1 0) fun v2 =>
 bnd (aLoad tab 25 v2 h) fun v3 =>
 bnd2 (call md 66 [v3, x6] h) fun v4 h5 =>
 k .normal (st 94 [(0, x0), (6, x6), (9, v4), (10, x10)]) h5
 := fun _ _ _ _ _ _ => by kernel_rfl
theorem r35_17 (x0 x6 x9 x10 : AV) : RR O35 35 94 17 false [(0, x0), (6, x6), (9, x9), (10, x10)] fun _ call md k h =>
 bnd (aBinC tab .eql 27 x9 (.int .i64 0) true) fun v1 =>
 k .normal (st 94 [(0, x0), (6, x6), (9, x9), (10, x10), (82, v1)]) h
 := fun _ _ _ _ _ _ => by kernel_rfl
theorem r35_18 (x0 x6 x9 x10 x82 : AV) : RR O35 35 94 18 false [(0, x0), (6, x6), (9, x9), (10, x10), (82, x82)] fun _ call md k h =>
 bnd (aNil x0) fun v1 =>
 bnd (aFieldAddr tab 104 v1 1) fun v2 =>
 bnd (aStore tab 3 v2 x6 h) fun h3 =>
 bnd (aNil x0) fun v4 =>
 bnd (aFieldAddr tab 104 v4 2) fun v5 =>
 bnd (aStore tab 3 v5 x10 h3) fun h6 =>
 k .normal (st 94 [(0, x0), (9, x9)]) h6
 := fun _ _ _ _ _ _ => by kernel_rfl
theorem r35_19a (x0 x6 x9 x10 x82 : AV) : RR O35 35 94 19 false [(0, x0), (6, x6), (9, x9), (10, x10), (82, x82)] fun _ call md k h =>
 bnd2 (call md 65 [x0, x9] h) fun v1 h2 =>
 k .normal (st 94 [(4, v1)]) h2
 := fun _ _ _ _ _ _ => by kernel_rfl
theorem r35_19b (x0 x9 : AV) : RR O35 35 94 19 false [(0, x0), (9, x9)] fun _ call md k h =>
 bnd2 (call md 65 [x0, x9] h) fun v1 h2 =>
 k .normal (st 94 [(4, v1)]) h2
 := fun _ _ _ _ _ _ => by kernel_rfl
def R35 := And.intro @r35_0 <| And.intro @r35_1 <| And.intro @r35_2 <| And.intro @r35_3 <| And.intro @r35_4 <| And.intro @r35_5 <| And.intro @r35_6 <| And.intro @r35_7 <| And.intro @r35_8 <| And.intro @r35_9 <| And.intro @r35_10 <| And.intro @r35_11 <| And.intro @r35_12 <| And.intro @r35_13 <| And.intro @r35_14 <| And.intro @r35_15 <| And.intro @r35_16 <| And.intro @r35_17 <| And.intro @r35_18 <| And.intro @r35_19a <| @r35_19b
end Go.Ax

set_option linter.unusedVariables false
namespace Go.Ax
open Go Go.Proofs
noncomputable def O37 (i : Nat) : Array Oper := opsOf i (bodyOf Try.f37)
theorem s37 : bodyOf Try.f37 = (.seq (.region 0 (O37 0) false) (.seq (.seq (.region 1 (O37 1) false) (.cond (Go.Operand.tmp 4) (.seq (.region 2 (O37 2) false) .ret) .skip)) (.seq (.region 3 (O37 3) false) .ret))) := by kernel_rfl
theorem e37 : E0 37 = some ⟨9, [2], bodyOf Try.f37⟩ := by kernel_rfl
theorem r37_0 (x0 : AV) : RR O37 37 9 0 false [(0, x0)] fun _ call md k h =>
 k .normal (st 9 [(0, x0)]) h
 := fun _ _ _ _ _ _ => by kernel_rfl
theorem r37_1 (x0 : AV) : RR O37 37 9 1 false [(0, x0)] fun _ call md k h =>
 bnd (aBinC tab .eql 57 x0 .nilp true) fun v1 =>
 k .normal (st 9 [(0, x0), (4, v1)]) h
 := fun _ _ _ _ _ _ => by kernel_rfl
theorem r37_2 (x0 x4 : AV) : RR O37 37 9 2 false [(0, x0), (4, x4)] fun _ call md k h =>
 k .normal (st 9 [(2, (.int .i64 0))]) h
 := fun _ _ _ _ _ _ => by kernel_rfl
theorem r37_3 (x0 x4 : AV) : RR O37 37 9 3 false [(0, x0), (4, x4)] fun _ call md k h =>
 bnd (aNil x0) fun v1 =>
 bnd (aFieldAddr tab 104 v1 1) fun v2 =>
 bnd (aLoad tab 3 v2 h) fun v3 =>
 k .normal (st 9 [(2, v3)]) h
 := fun _ _ _ _ _ _ => by kernel_rfl
def R37 := And.intro @r37_0 <| And.intro @r37_1 <| And.intro @r37_2 <| @r37_3
end Go.Ax

set_option linter.unusedVariables false
namespace Go.Ax
open Go Go.Proofs
noncomputable def O64 (i : Nat) : Array Oper := opsOf i (bodyOf Try.f64)
theorem s64 : bodyOf Try.f64 = (.seq (.region 0 (O64 0) false) (.seq (.block 0 (.seq (.region 1 (O64 1) false) (.cond (Go.Operand.tmp 3) (.seq (.region 2 (O64 2) false) .ret) (.seq (.region 3 (O64 3) false) (.cond (Go.Operand.tmp 6) (.seq (.region 4 (O64 4) false) .ret) .skip))))) (.seq (.region 5 (O64 5) false) .ret))) := by kernel_rfl
theorem e64 : E0 64 = some ⟨11, [2], bodyOf Try.f64⟩ := by kernel_rfl
theorem r64_0 (x0 : AV) : RR O64 64 11 0 false [(0, x0)] fun _ call md k h =>
 k .normal (st 11 [(0, x0)]) h
 := fun _ _ _ _ _ _ => by kernel_rfl
theorem r64_1 (x0 : AV) : RR O64 64 11 1 false [(0, x0)] fun _ call md k h =>
 bnd (aBinC tab .eql 57 x0 .nilp true) fun v1 =>
 k .normal (st 11 [(0, x0), (3, v1)]) h
 := fun _ _ _ _ _ _ => by kernel_rfl
theorem r64_2 (x0 x3 : AV) : RR O64 64 11 2 false [(0, x0), (3, x3)] fun _ call md k h =>
 k .normal (st 11 [(2, (.int .i64 1))]) h
 := fun _ _ _ _ _ _ => by kernel_rfl
theorem r64_3 (x0 x3 : AV) : RR O64 64 11 3 false [(0, x0), (3, x3)] fun _ call md k h =>
 bnd (aNil x0) fun v1 =>
 bnd (aFieldAddr tab 104 v1 3) fun v2 =>
 bnd (aLoad tab 4 v2 h) fun v3 =>
 k .normal (st 11 [(6, v3)]) h
 := fun _ _ _ _ _ _ => by kernel_rfl
theorem r64_4 (x6 : AV) : RR O64 64 11 4 false [(6, x6)] fun _ call md k h =>
 k .normal (st 11 [(2, (.int .i64 4))]) h
 := fun _ _ _ _ _ _ => by kernel_rfl
theorem r64_5 (x6 : AV) : RR O64 64 11 5 false [(6, x6)] fun _ call md k h =>
 k .normal (st 11 [(2, (.int .i64 0))]) h
 := fun _ _ _ _ _ _ => by kernel_rfl
def R64 := And.intro @r64_0 <| And.intro @r64_1 <| And.intro @r64_2 <| And.intro @r64_3 <| And.intro @r64_4 <| @r64_5
end Go.Ax

set_option linter.unusedVariables false
namespace Go.Ax
open Go Go.Proofs
noncomputable def O65 (i : Nat) : Array Oper := opsOf i (bodyOf Try.f65)
theorem s65 : bodyOf Try.f65 = (.seq (.region 0 (O65 0) false) (.seq (.region 1 (O65 1) false) (.seq (.region 2 (O65 2) false) .ret))) := by kernel_rfl
theorem e65 : E0 65 = some ⟨17, [4], bodyOf Try.f65⟩ := by kernel_rfl
theorem r65_0 (x0 x1 : AV) : RR O65 65 17 0 false [(0, x0), (1, x1)] fun _ call md k h =>
 k .normal (st 17 [(0, x0), (1, x1)]) h
 := fun _ _ _ _ _ _ => by kernel_rfl
theorem r65_1 (x0 x1 : AV) : RR O65 65 17 1 false [(0, x0), (1, x1)] fun _ call md k h =>
 bnd (aNil x0) fun v1 =>
 bnd (aFieldAddr tab 104 v1 3) fun v2 =>
 bnd (aLoad tab 4 v2 h) fun v3 =>
 gd false v3 h (fun k => k x1 h) fun v4 h5 =>
 gd false v3 h5 (fun k => bnd (aBinC tab .eql 27 v4 (.int .i64 4) true) (k · h5)) fun v6 h7 =>
 bnd (aPick v3 (.bool true) v6) fun v8 =>
 bnd (aNil x0) fun v9 =>
 bnd (aFieldAddr tab 104 v9 3) fun v10 =>
 bnd (aStore tab 4 v10 v8 h7) fun h11 =>
 k .normal (st 17 [(1, x1)]) h11
 := fun _ _ _ _ _ _ => by kernel_rfl
theorem r65_2 (x1 : AV) : RR O65 65 17 2 false [(1, x1)] fun _ call md k h =>
 k .normal (st 17 [(4, x1)]) h
 := fun _ _ _ _ _ _ => by kernel_rfl
def R65 := And.intro @r65_0 <| And.intro @r65_1 <| @r65_2
end Go.Ax

namespace Go.Ax
open Go Go.Proofs
theorem lp_nil (q : Nat) : aBinC tab .eql 57 (lp q) .nilp true = some (.bool false) := by simp [aBinC, aBin, aEq]
theorem nil_lp : aBinC tab .eql 57 .nilp .nilp true = some (.bool true) := by simp [aBinC, aBin, aEq]
theorem lp_chk (q : Nat) : aNil (lp q) = some (lp q) := rfl
theorem lpf0 (q : Nat) : aFieldAddr tab 104 (lp q) 0 = some (.ref q [0] 25) := by simp [aFieldAddr]
theorem lpf1 (q : Nat) : aFieldAddr tab 104 (lp q) 1 = some (.ref q [1] 3) := by simp [aFieldAddr]
theorem lpf2 (q : Nat) : aFieldAddr tab 104 (lp q) 2 = some (.ref q [2] 3) := by simp [aFieldAddr]
theorem lpf3 (q : Nat) : aFieldAddr tab 104 (lp q) 3 = some (.ref q [3] 4) := by simp [aFieldAddr]
section fields
variable {h : Heap} {q p gen : Nat} {pos : Int} {w : Bool} (hq : h[q]? = some (lv p gen pos w))
include hq
theorem lld0 : aLoad tab 25 (.ref q [0] 25) h = some (dp p) := load_fld (i := 0) hq rfl (by simp)
theorem lld1 : aLoad tab 3 (.ref q [1] 3) h = some (.int .i64 gen) := load_fld (i := 1) hq rfl (by simp)
theorem lld2 : aLoad tab 3 (.ref q [2] 3) h = some (.int .i64 pos) := load_fld (i := 2) hq rfl (by simp)
theorem lld3 : aLoad tab 4 (.ref q [3] 4) h = some (.bool w) := load_fld (i := 3) hq rfl (by simp)
theorem lst1 (g : Nat) : aStore tab 3 (.ref q [1] 3) (.int .i64 g) h = some (h.set q (lv p g pos w)) := store_fld (i := 1) hq rfl (by simp) rfl
theorem lst2 (a : Int) : aStore tab 3 (.ref q [2] 3) (.int .i64 a) h = some (h.set q (lv p gen a w)) := store_fld (i := 2) hq rfl (by simp) rfl
theorem lst3 (c : Bool) : aStore tab 4 (.ref q [3] 4) (.bool c) h = some (h.set q (lv p gen pos c)) := store_fld (i := 3) hq rfl (by simp) rfl
end fields
theorem check_nil (md : Bool) (h : Heap) (k : Nat) : exFn C0 E0 (k + 1) md 64 [.nilp] h = some (.int .i64 1, h) := by
  refine exFn_of e64 ?_
  rw [fnK, show ([AV.nilp] ++ List.replicate (11 - [AV.nilp].length) AV.undef) = st 11 [(0, .nilp)] from rfl, s64]
  simp -implicitDefEqProofs only [↓RK, RK, ↓RB, RB, decide_true, decide_false, STs, Nat.reduceBEq, ↓reduceIte, Nat.reduceLT, ↓R64, R64, nil_lp]
theorem check_ok {h : Heap} {q p gen : Nat} {pos : Int} {w : Bool} (hq : h[q]? = some (lv p gen pos w)) (md : Bool) (k : Nat) : exFn C0 E0 (k + 1) md 64 [lp q] h = some (.int .i64 (if w then 4 else 0), h) := by
  refine exFn_of e64 ?_
  rw [fnK, show ([lp q] ++ List.replicate (11 - [lp q].length) AV.undef) = st 11 [(0, lp q)] from rfl, s64]
  cases w
  · simp -implicitDefEqProofs only [↓RK, RK, ↓RB, RB, decide_true, decide_false, STs, Nat.reduceBEq, ↓reduceIte, Nat.reduceLT, ↓R64, R64, lp_nil, lp_chk, lpf3, lld3 hq]
  · simp -implicitDefEqProofs only [↓RK, RK, ↓RB, RB, decide_true, decide_false, STs, Nat.reduceBEq, ↓reduceIte, Nat.reduceLT, ↓R64, R64, lp_nil, lp_chk, lpf3, lld3 hq]
theorem done_ok {h : Heap} {q p gen : Nat} {pos : Int} {w : Bool} (hq : h[q]? = some (lv p gen pos w)) (e : Int) (md : Bool) (k : Nat) :
    exFn C0 E0 (k + 1) md 65 [lp q, .int .i64 e] h = some (.int .i64 e, h.set q (lv p gen pos (w || decide (e = 4)))) := by
  refine exFn_of e65 ?_
  rw [fnK, show ([lp q, .int .i64 e] ++ List.replicate (17 - [lp q, .int .i64 e].length) AV.undef) = st 17 [(0, lp q), (1, .int .i64 e)] from rfl, s65]
  cases w
  · simp -implicitDefEqProofs only [↓RK, RK, ↓RB, RB, decide_true, decide_false, STs, Nat.reduceBEq, ↓reduceIte, Nat.reduceLT, ↓R65, R65, lp_chk, lpf3, lld3 hq, bin_eql, lst3 hq, Bool.false_or]
  · simp -implicitDefEqProofs only [↓RK, RK, ↓RB, RB, decide_true, decide_false, STs, Nat.reduceBEq, ↓reduceIte, Nat.reduceLT, ↓R65, R65, lp_chk, lpf3, lld3 hq, lst3 hq, Bool.true_or]
theorem gen_ok {h : Heap} {q p gen : Nat} {pos : Int} {w : Bool} (hq : h[q]? = some (lv p gen pos w)) (k : Nat) : exFn C0 E0 (k + 1) false 37 [lp q] h = some (.int .i64 gen, h) := by
  refine exFn_of e37 ?_
  rw [fnK, show ([lp q] ++ List.replicate (9 - [lp q].length) AV.undef) = st 9 [(0, lp q)] from rfl, s37]
  simp -implicitDefEqProofs only [↓RK, RK, ↓RB, RB, decide_true, decide_false, STs, Nat.reduceBEq, ↓reduceIte, Nat.reduceLT, ↓R37, R37, lp_nil, lp_chk, lpf1, lld1 hq]
theorem used_ok {S : Obs} {h : Heap} {q p r : Nat} {w : Wl} (L : Lsk S h q p r w) (hn : 2 ≤ w.d.lasts.length) (hg : w.gen < 2 ^ 62) (hp : 0 ≤ w.pos) (hp2 : w.pos < 2 ^ 62) (k : Nat) :
    exFn C0 E0 (k + 3) false 34 [lp q] h = some (.int .i64 (w.pos - (fromOf w.d.lasts.length w.gen : Nat)), h) := by
  refine exFn_of e34 ?_
  have hfew := L.dsk.few
  have ht := toOf_le w.d.lasts.length w.gen hn
  have bk := bounds_ok L.dsk hn w.gen hg false k
  have wr : IntKind.i64.wrap (w.pos - (fromOf w.d.lasts.length w.gen : Nat)) = w.pos - (fromOf w.d.lasts.length w.gen : Nat) := by unfold toOf at ht; rw [wrap_i64] <;> omega
  rw [fnK, show ([lp q] ++ List.replicate (25 - [lp q].length) AV.undef) = st 25 [(0, lp q)] from rfl, s34]
  simp -implicitDefEqProofs only [↓RK, RK, ↓RB, RB, decide_true, decide_false, STs, Nat.reduceBEq, ↓reduceIte, Nat.reduceLT, ↓R34, R34, lp_nil, lp_chk, lpf0, lpf1, lpf2, lld0 L.var, lld1 L.var, lld2 L.var, bk, ext0, ext1, bin_sub, wr]
theorem Lsk.set {S : Obs} {h : Heap} {q p r : Nat} {w : Wl} (hq : S q) (hv : h[q]? = some (lv p w.gen w.pos w.down)) {d : Dk} (D : Dsk (fun i => S i ∧ i ≠ q) h p r d) (gen : Nat) (pos : Int) (dn : Bool) :
    Lsk S (h.set q (lv p gen pos dn)) q p r ⟨d, gen, pos, dn⟩ ∧ Keep S h (h.set q (lv p gen pos dn)) := by
  have hlt := (List.getElem?_eq_some_iff.1 hv).1
  refine ⟨⟨hq, by simp [hlt], D.keep (U := fun i => i = q) (Keep.set h _ rfl) fun i _ h1 h2 => h1.2 h2⟩, Keep.set h _ hq⟩
def Wl.append (w : Wl) (b : List UInt8) : Int × Wl :=
  if w.down then (4, w)
  else
    let r := w.d.lay w.pos (toOf w.d.lasts.length w.gen : Nat) w.gen b
    (r.1.2, ⟨r.2, w.gen, if r.1.2 = 0 then r.1.1 else w.pos, decide (r.1.2 = 4)⟩)
theorem append_nil {x : AV} (h : Heap) (k : Nat) : exFn C0 E0 (k + 2) false 33 [.nilp, x] h = some (.int .i64 1, h) := by
  refine exFn_of e33 ?_
  have c0 : decide ((1 : Int) ≠ 0) = true := by decide
  rw [fnK, show ([.nilp, x] ++ List.replicate (54 - [.nilp, x].length) AV.undef) = st 54 [(0, .nilp), (1, x)] from rfl, s33]
  simp -implicitDefEqProofs only [↓RK, RK, ↓RB, RB, decide_true, decide_false, STs, Nat.reduceBEq, ↓reduceIte, Nat.reduceLT, ↓R33, R33, check_nil, neq27, c0]
theorem append_ok {S : Obs} {h : Heap} {q p r : Nat} {w : Wl} (L : Lsk S h q p r w) (up : Up S h) (hn : 2 ≤ w.d.lasts.length) (hg : w.gen < 2 ^ 62) (hp : w.pos < 2 ^ 62) (s : Sane w.d) {x : AV} {b : List UInt8} (hx : Bs x b) (hb : b.length < 2 ^ 61) (k : Nat) (hk : 10400 < k) :
    ∃ h', exFn C0 E0 (k + 1) false 33 [lp q, x] h = some (.int .i64 (w.append b).1, h') ∧ Lsk S h' q p r (w.append b).2 ∧ Keep S h h' := by
  obtain ⟨k, rfl⟩ : ∃ j, k = j + 3 := ⟨k - 3, by omega⟩
  have few := s.few
  have n0 : ([lp q, x] ++ List.replicate (54 - [lp q, x].length) AV.undef) = st 54 [(0, lp q), (1, x)] := rfl
  have ck := check_ok L.var false (k + 2)
  have hlt := (List.getElem?_eq_some_iff.1 L.var).1
  have hv := L.var
  unfold Wl.append
  cases hd : w.down
  case true =>
    rw [hd] at ck
    have c0 : decide ((4 : Int) ≠ 0) = true := by decide
    refine ⟨h, exFn_of e33 ?_, L, Keep.refl _ _⟩
    rw [fnK, n0, s33]
    simp -implicitDefEqProofs only [↓RK, RK, ↓RB, RB, decide_true, decide_false, STs, Nat.reduceBEq, ↓reduceIte, Nat.reduceLT, ↓R33, R33, ck, neq27, c0]
  rw [hd] at ck
  have z0 : decide ((0 : Int) ≠ 0) = false := by decide
  have bk := bounds_ok L.dsk hn w.gen hg false (k + 1)
  have upd : Up (fun i => S i ∧ i ≠ q) h := fun i hi => ⟨up i hi, by omega⟩
  obtain ⟨h1, l1, D1, k1⟩ := lay_ok L.dsk upd (by omega) s.fuse w.pos (toOf w.d.lasts.length w.gen : Nat) w.gen (by omega) hx hb (k + 2) (by omega)
  simp only [Bool.false_eq_true, if_false]
  generalize w.d.lay w.pos (toOf w.d.lasts.length w.gen : Nat) w.gen b = R at *
  obtain ⟨⟨nx, le⟩, ld⟩ := R
  simp only at *
  have hv1 : h1[q]? = some (lv p w.gen w.pos w.down) := by rw [k1.2 q (fun h => h.2 rfl)]; exact hv
  rw [hd] at hv hv1
  have kk := k1.mono (U := S) fun i hi => hi.1
  by_cases z : le = 0
  · subst z
    have hlt1 := (List.getElem?_eq_some_iff.1 hv1).1
    obtain ⟨L2, k2⟩ := Lsk.set (w := ⟨ld, w.gen, w.pos, false⟩) L.hq hv1 D1 w.gen nx false
    obtain ⟨L3, k3⟩ := Lsk.set (w := ⟨ld, w.gen, nx, false⟩) L.hq L2.var L2.dsk w.gen nx (false || decide ((0 : Int) = 4))
    have dk := done_ok L2.var 0 false (k + 2)
    have e1 : decide ((0 : Int) = 0) = true := by decide
    refine ⟨_, exFn_of e33 ?_, L3, (kk.trans k2).trans k3⟩
    rw [fnK, n0, s33]
    simp -implicitDefEqProofs only [↓RK, RK, ↓RB, RB, decide_true, decide_false, STs, Nat.reduceBEq, ↓reduceIte, Nat.reduceLT, ↓R33, R33, ck, neq27, z0, lp_chk, lpf0, lpf1, lpf2, lld0 hv, lld1 hv, lld2 hv, bk, ext0, ext1, l1, bin_eql, e1, lst2 hv1, dk]
  · obtain ⟨L3, k3⟩ := Lsk.set (w := ⟨ld, w.gen, w.pos, false⟩) L.hq hv1 D1 w.gen w.pos (false || decide (le = 4))
    have dk := done_ok hv1 le false (k + 2)
    have e1 : decide (le = 0) = false := decide_eq_false z
    rw [if_neg z]
    refine ⟨_, exFn_of e33 ?_, L3, kk.trans k3⟩
    rw [fnK, n0, s33]
    simp -implicitDefEqProofs only [↓RK, RK, ↓RB, RB, decide_true, decide_false, STs, Nat.reduceBEq, ↓reduceIte, Nat.reduceLT, ↓R33, R33, ck, neq27, z0, lp_chk, lpf0, lpf1, lpf2, lld0 hv, lld1 hv, lld2 hv, bk, ext0, ext1, l1, bin_eql, e1, dk]
end Go.Ax

namespace Go.Ax
open Go Go.Proofs
def Wl.checkpoint (w : Wl) (b : List UInt8) : Int × Wl :=
  if w.down then (4, w)
  else
    let n := w.d.lasts.length
    let gen := w.gen + 1
    if 8192 < b.length then (1, w)
    else if 2147483647 < gen ∨ ((toOf n gen : Nat) : Int) - (fromOf n gen : Nat) < sizeOf b.length then (3, w)
    else
      let c := w.d.clean (fromOf n gen : Nat) (toOf n gen : Nat)
      if c.1 ≠ 0 then (c.1, ⟨c.2, w.gen, w.pos, decide (c.1 = 4)⟩)
      else
        let r := c.2.lay (fromOf n gen : Nat) (toOf n gen : Nat) gen b
        if r.1.2 ≠ 0 then (r.1.2, ⟨r.2, w.gen, w.pos, decide (r.1.2 = 4)⟩)
        else
          let i := r.2.install gen
          if i.1 = 0 then (0, ⟨i.2, gen, r.1.1, false⟩) else (i.1, ⟨i.2, w.gen, w.pos, decide (i.1 = 4)⟩)
theorem checkpoint_ok {S : Obs} {h : Heap} {q p r : Nat} {w : Wl} (L : Lsk S h q p r w) (up : Up S h) (hn : 2 ≤ w.d.lasts.length) (hg : w.gen < 2 ^ 61) (s : Sane w.d) {x : AV} {b : List UInt8} (hx : Bs x b) (hb : b.length < 2 ^ 61) (k : Nat) (hk : 10400 < k) :
    ∃ h', exFn C0 E0 (k + 1) false 35 [lp q, x] h = some (.int .i64 (w.checkpoint b).1, h') ∧ Lsk S h' q p r (w.checkpoint b).2 ∧ Keep S h h' := by
  obtain ⟨k, rfl⟩ : ∃ j, k = j + 3 := ⟨k - 3, by omega⟩
  have few := s.few
  have n0 : ([lp q, x] ++ List.replicate (94 - [lp q, x].length) AV.undef) = st 94 [(0, lp q), (1, x)] := rfl
  have ck := check_ok L.var false (k + 2)
  have hlt := (List.getElem?_eq_some_iff.1 L.var).1
  have hv := L.var
  have hDl := L.dsk.few
  unfold Wl.checkpoint
  cases hd : w.down
  case true =>
    rw [hd] at ck
    have c0 : decide ((4 : Int) ≠ 0) = true := by decide
    refine ⟨h, exFn_of e35 ?_, L, Keep.refl _ _⟩
    rw [fnK, n0, s35]
    simp -implicitDefEqProofs only [↓RK, RK, ↓RB, RB, decide_true, decide_false, STs, Nat.reduceBEq, ↓reduceIte, Nat.reduceLT, ↓R35, R35, ck, neq27, c0]
  rw [hd] at ck
  have z0 : decide ((0 : Int) ≠ 0) = false := by decide
  have wg : IntKind.i64.wrap ((w.gen : Int) + 1) = ((w.gen + 1 : Nat) : Int) := by rw [wrap_i64] <;> omega
  have bk := bounds_ok L.dsk hn (w.gen + 1) (by omega) false (k + 1)
  have htl := toOf_le w.d.lasts.length (w.gen + 1) hn
  have hft : fromOf w.d.lasts.length (w.gen + 1) ≤ toOf w.d.lasts.length (w.gen + 1) := by unfold toOf; omega
  simp only [Bool.false_eq_true, if_false]
  generalize fromOf w.d.lasts.length (w.gen + 1) = F at *
  generalize toOf w.d.lasts.length (w.gen + 1) = T at *
  rw [hd] at hv
  by_cases q1 : 8192 < b.length
  · have e1 : decide ((8192 : Int) < (b.length : Nat)) = true := decide_eq_true (by omega)
    rw [if_pos q1]
    refine ⟨h, exFn_of e35 ?_, L, Keep.refl _ _⟩
    rw [fnK, n0, s35]
    simp -implicitDefEqProofs only [↓RK, RK, ↓RB, RB, decide_true, decide_false, STs, Nat.reduceBEq, ↓reduceIte, Nat.reduceLT, ↓R35, R35, ck, neq27, z0, lp_chk, lpf0, lpf1, lpf2, lld0 hv, lld1 hv, bin_add, wg, bk, ext0, ext1, hx.len, bin_gtr, e1]
  have e1 : decide ((8192 : Int) < (b.length : Nat)) = false := decide_eq_false (by omega)
  rw [if_neg q1]
  have sk := size_ok (b.length : Int) (by omega) false h (k + 2)
  have wf : IntKind.i64.wrap ((T : Int) - (F : Int)) = (T : Int) - F := by rw [wrap_i64] <;> omega
  by_cases q2 : 2147483647 < w.gen + 1
  · have e2 : decide ((2147483647 : Int) < ((w.gen + 1 : Nat) : Int)) = true := decide_eq_true (by omega)
    rw [if_pos (.inl q2)]
    refine ⟨h, exFn_of e35 ?_, L, Keep.refl _ _⟩
    rw [fnK, n0, s35]
    simp -implicitDefEqProofs only [↓RK, RK, ↓RB, RB, decide_true, decide_false, STs, Nat.reduceBEq, ↓reduceIte, Nat.reduceLT, ↓R35, R35, ck, neq27, z0, lp_chk, lpf0, lpf1, lpf2, lld0 hv, lld1 hv, bin_add, wg, bk, ext0, ext1, hx.len, bin_gtr, e1, e2]
  have e2 : decide ((2147483647 : Int) < ((w.gen + 1 : Nat) : Int)) = false := decide_eq_false (by omega)
  by_cases q3 : (T : Int) - F < sizeOf b.length
  · have e3 : decide ((T : Int) - F < sizeOf b.length) = true := decide_eq_true q3
    rw [if_pos (.inr q3)]
    refine ⟨h, exFn_of e35 ?_, L, Keep.refl _ _⟩
    rw [fnK, n0, s35]
    simp -implicitDefEqProofs only [↓RK, RK, ↓RB, RB, decide_true, decide_false, STs, Nat.reduceBEq, ↓reduceIte, Nat.reduceLT, ↓R35, R35, ck, neq27, z0, lp_chk, lpf0, lpf1, lpf2, lld0 hv, lld1 hv, bin_add, wg, bk, ext0, ext1, hx.len, bin_gtr, e1, e2, sk, bin_sub, wf, e3]
  have e3 : decide ((T : Int) - F < sizeOf b.length) = false := decide_eq_false q3
  rw [if_neg (by rintro (h | h); exact q2 h; exact q3 h)]
  have upd : Up (fun i => S i ∧ i ≠ q) h := fun i hi => ⟨up i hi, by omega⟩
  obtain ⟨h1, l1, D1, k1⟩ := clean_ok L.dsk upd (by omega) s.fuse F T (k + 2) (by omega)
  obtain ⟨s1, sl1, -, -⟩ := clean_st (a := (F : Int)) (e := (T : Int)) s
  generalize w.d.clean (F : Int) (T : Int) = C at *
  obtain ⟨ce, cd⟩ := C
  simp only at *
  have few1 := s1.few
  have up1 := upd.keep k1
  have hv1 : h1[q]? = some (lv p w.gen w.pos false) := by rw [k1.2 q (fun h => h.2 rfl)]; exact hv
  have kk1 := k1.mono (U := S) fun i hi => hi.1
  by_cases z1 : ce = 0
  case neg =>
    obtain ⟨L3, k3⟩ := Lsk.set (w := ⟨cd, w.gen, w.pos, false⟩) L.hq hv1 D1 w.gen w.pos (false || decide (ce = 4))
    have dk := done_ok hv1 ce false (k + 2)
    have c1 : decide (ce ≠ 0) = true := decide_eq_true z1
    rw [if_pos z1]
    refine ⟨_, exFn_of e35 ?_, L3, kk1.trans k3⟩
    rw [fnK, n0, s35]
    simp -implicitDefEqProofs only [↓RK, RK, ↓RB, RB, decide_true, decide_false, STs, Nat.reduceBEq, ↓reduceIte, Nat.reduceLT, ↓R35, R35, ck, neq27, z0, lp_chk, lpf0, lpf1, lpf2, lld0 hv, lld1 hv, bin_add, wg, bk, ext0, ext1, hx.len, bin_gtr, e1, e2, sk, bin_sub, wf, e3, l1, c1, dk]
  subst z1
  rw [if_neg (by decide)]
  obtain ⟨h2, l2, D2, k2⟩ := lay_ok D1 up1 (by omega) s1.fuse F T ((w.gen + 1 : Nat) : Int) (by omega) hx hb (k + 2) (by omega)
  obtain ⟨s2, sl2, -, -⟩ := lay_st (at' := (F : Int)) (e := (T : Int)) (gen := ((w.gen + 1 : Nat) : Int)) (b := b) s1
  generalize cd.lay (F : Int) (T : Int) ((w.gen + 1 : Nat) : Int) b = R at *
  obtain ⟨⟨nx, le⟩, ld⟩ := R
  simp only at *
  have few2 := s2.few
  have up2 := up1.keep k2
  have hv2 : h2[q]? = some (lv p w.gen w.pos false) := by rw [k2.2 q (fun h => h.2 rfl)]; exact hv1
  have kk2 := kk1.trans (k2.mono (U := S) fun i hi => hi.1)
  by_cases z2 : le = 0
  case neg =>
    obtain ⟨L3, k3⟩ := Lsk.set (w := ⟨ld, w.gen, w.pos, false⟩) L.hq hv2 D2 w.gen w.pos (false || decide (le = 4))
    have dk := done_ok hv2 le false (k + 2)
    have c1 : decide (le ≠ 0) = true := decide_eq_true z2
    rw [if_pos z2]
    refine ⟨_, exFn_of e35 ?_, L3, kk2.trans k3⟩
    rw [fnK, n0, s35]
    simp -implicitDefEqProofs only [↓RK, RK, ↓RB, RB, decide_true, decide_false, STs, Nat.reduceBEq, ↓reduceIte, Nat.reduceLT, ↓R35, R35, ck, neq27, z0, lp_chk, lpf0, lpf1, lpf2, lld0 hv, lld0 hv1, lld1 hv, bin_add, wg, bk, ext0, ext1, hx.len, bin_gtr, e1, e2, sk, bin_sub, wf, e3, l1, l2, c1, dk]
  subst z2
  rw [if_neg (by decide)]
  obtain ⟨h3, l3, D3, k3⟩ := install_ok D2 up2 (by omega) s2.fuse (w.gen + 1) (by omega) (k + 2) (by omega)
  generalize ld.install (w.gen + 1) = I at *
  obtain ⟨ie, id⟩ := I
  simp only at *
  have hv3 : h3[q]? = some (lv p w.gen w.pos false) := by rw [k3.2 q (fun h => h.2 rfl)]; exact hv2
  have kk3 := kk2.trans (k3.mono (U := S) fun i hi => hi.1)
  by_cases z3 : ie = 0
  · subst z3
    obtain ⟨L4, k4⟩ := Lsk.set (w := ⟨id, w.gen, w.pos, false⟩) L.hq hv3 D3 (w.gen + 1) w.pos false
    obtain ⟨L5, k5⟩ := Lsk.set (w := ⟨id, w.gen + 1, w.pos, false⟩) L.hq L4.var L4.dsk (w.gen + 1) nx false
    obtain ⟨L6, k6⟩ := Lsk.set (w := ⟨id, w.gen + 1, nx, false⟩) L.hq L5.var L5.dsk (w.gen + 1) nx (false || decide ((0 : Int) = 4))
    have dk := done_ok L5.var 0 false (k + 2)
    have c1 : decide ((0 : Int) = 0) = true := by decide
    rw [if_pos rfl]
    refine ⟨_, exFn_of e35 ?_, L6, ((kk3.trans k4).trans k5).trans k6⟩
    rw [fnK, n0, s35]
    simp -implicitDefEqProofs only [↓RK, RK, ↓RB, RB, decide_true, decide_false, STs, Nat.reduceBEq, ↓reduceIte, Nat.reduceLT, ↓R35, R35, ck, neq27, z0, lp_chk, lpf0, lpf1, lpf2, lld0 hv, lld0 hv1, lld0 hv2, lld1 hv, bin_add, wg, bk, ext0, ext1, hx.len, bin_gtr, e1, e2, sk, bin_sub, wf, e3, l1, l2, l3, bin_eql, c1, lst1 hv3, lst2 L4.var, dk]
  · obtain ⟨L4, k4⟩ := Lsk.set (w := ⟨id, w.gen, w.pos, false⟩) L.hq hv3 D3 w.gen w.pos (false || decide (ie = 4))
    have dk := done_ok hv3 ie false (k + 2)
    have c1 : decide (ie = 0) = false := decide_eq_false z3
    rw [if_neg z3]
    refine ⟨_, exFn_of e35 ?_, L4, kk3.trans k4⟩
    rw [fnK, n0, s35]
    simp -implicitDefEqProofs only [↓RK, RK, ↓RB, RB, decide_true, decide_false, STs, Nat.reduceBEq, ↓reduceIte, Nat.reduceLT, ↓R35, R35, ck, neq27, z0, lp_chk, lpf0, lpf1, lpf2, lld0 hv, lld0 hv1, lld0 hv2, lld1 hv, bin_add, wg, bk, ext0, ext1, hx.len, bin_gtr, e1, e2, sk, bin_sub, wf, e3, l1, l2, l3, bin_eql, c1, dk]
end Go.Ax

set_option linter.unusedVariables false
namespace Go.Ax
open Go Go.Proofs
noncomputable def O40 (i : Nat) : Array Oper := opsOf i (bodyOf Try.f40)
noncomputable def B40_1 : Code := (.seq (.seq (.region 5 (O40 5) false) (.cond (Go.Operand.tmp 25) .skip (.exit 0))) (.seq (.block 1 (.seq (.region 7 (O40 7) false) (.seq (.region 8 (O40 8) false) (.cond (Go.Operand.tmp 56) (.region 9 (O40 9) false) .skip)))) (.region 6 (O40 6) false)))
theorem s40 : bodyOf Try.f40 = (.seq (.region 0 (O40 0) false) (.seq (.seq (.region 1 (O40 1) false) (.cond (Go.Operand.tmp 23) (.seq (.region 2 (O40 2) false) .ret) .skip)) (.seq (.region 3 (O40 3) false) (.seq (.seq (.region 4 (O40 4) false) (.block 0 (.loop B40_1))) (.seq (.seq (.region 10 (O40 10) false) (.cond (Go.Operand.tmp 59) (.seq (.region 11 (O40 11) false) (.seq (.region 12 (O40 12) false) (.seq (.seq (.region 13 (O40 13) false) (.seq (.region 14 (O40 14) false) (.cond (Go.Operand.tmp 70) (.seq (.region 15 (O40 15) false) .ret) .skip))) (.seq (.seq (.region 16 (O40 16) false) (.seq (.region 17 (O40 17) false) (.cond (Go.Operand.tmp 76) (.seq (.region 18 (O40 18) false) .ret) .skip))) (.seq (.region 19 (O40 19) false) (.seq (.region 20 (O40 20) false) (.cond (Go.Operand.tmp 81) (.seq (.region 21 (O40 21) false) .ret) .skip))))))) .skip)) (.seq (.region 22 (O40 22) false) (.seq (.region 23 (O40 23) false) (.seq (.seq (.region 24 (O40 24) false) (.seq (.region 25 (O40 25) false) (.cond (Go.Operand.tmp 102) (.seq (.region 26 (O40 26) false) .ret) .skip))) (.seq (.region 27 (O40 27) false) .ret))))))))) := by kernel_rfl
theorem e40 : E0 40 = some ⟨110, [2, 3, 4], bodyOf Try.f40⟩ := by kernel_rfl
theorem r40_0 (x0 : AV) : RR O40 40 110 0 false [(0, x0)] fun _ call md k h =>
 k .normal (st 110 [(0, x0)]) h
 := fun _ _ _ _ _ _ => by kernel_rfl
theorem r40_1 (x0 : AV) : RR O40 40 110 1 false [(0, x0)] fun _ call md k h =>
 bnd (aNil x0) fun v1 =>
 bnd (aFieldAddr tab 74 v1 0) fun v2 =>
 bnd (aLoad tab 30 v2 h) fun v3 =>
 bnd (aLen tab 30 v3) fun v4 =>
 bnd (aBinC tab .lss 3 v4 (.int .i64 4) true) fun v5 =>
 k .normal (st 110 [(0, x0), (23, v5)]) h
 := fun _ _ _ _ _ _ => by kernel_rfl
theorem r40_2 (x0 x23 : AV) : RR O40 40 110 2 false [(0, x0), (23, x23)] fun _ call md k h =>
 k .normal (st 110 [(2, .nilp), (3, .nils), (4, (.int .i64 1))]) h
 := fun _ _ _ _ _ _ => by kernel_rfl
theorem r40_3 (x0 x23 : AV) : RR O40 40 110 3 false [(0, x0), (23, x23)] fun _ call md k h =>
 k .normal (st 110 [(0, x0), (5, (.int .i64 0))]) h
 := fun _ _ _ _ _ _ => by kernel_rfl
theorem r40_4 (x0 x5 : AV) : RR O40 40 110 4 false [(0, x0), (5, x5)] fun _ call md k h =>
 k .normal (st 110 [(0, x0), (5, x5), (6, (.int .i64 0))]) h
 := fun _ _ _ _ _ _ => by kernel_rfl
theorem r40_5 (x0 x5 x6 : AV) : RR O40 40 110 5 false [(0, x0), (5, x5), (6, x6)] fun _ call md k h =>
 bnd (aBinC tab .lss 3 x6 (.int .i64 2) true) fun v1 =>
 k .normal (st 110 [(0, x0), (5, x5), (6, x6), (25, v1)]) h
 := fun _ _ _ _ _ _ => by kernel_rfl
theorem r40_6a (x0 x5 x6 x7 x56 : AV) : RR O40 40 110 6 false [(0, x0), (5, x5), (6, x6), (7, x7), (56, x56)] fun _ call md k h =>
 bnd (aBinC tab .add 3 x6 (.int .i64 1) true) fun v1 =>
 k .normal (st 110 [(0, x0), (5, x5), (6, v1)]) h
 := fun _ _ _ _ _ _ => by kernel_rfl
theorem r40_6b (x0 x5 x6 : AV) : RR O40 40 110 6 false [(0, x0), (5, x5), (6, x6)] fun _ call md k h =>
 bnd (aBinC tab .add 3 x6 (.int .i64 1) true) fun v1 =>
 k .normal (st 110 [(0, x0), (5, x5), (6, v1)]) h
 := fun _ _ _ _ _ _ => by kernel_rfl
theorem r40_7 (x0 x5 x6 x25 : AV) : RR O40 40 110 7 false [(0, x0), (5, x5), (6, x6), (25, x25)] fun _ call md k h =>
 bnd2 (call md 57 [x0, x6] h) fun v1 h2 =>
 bnd2 (call md 58 [v1] h2) fun v3 h4 =>
 k .normal (st 110 [(0, x0), (5, x5), (6, x6), (7, v3)]) h4
 := fun _ _ _ _ _ _ => by kernel_rfl
theorem r40_8 (x0 x5 x6 x7 : AV) : RR O40 40 110 8 false [(0, x0), (5, x5), (6, x6), (7, x7)] fun _ call md k h =>
 bnd (aBinC tab .geq 3 x7 (.int .i64 1) true) fun v1 =>
 gd true v1 h (fun k => k x7 h) fun v2 h3 =>
 gd true v1 h3 (fun k => bnd (aBinC tab .leq 3 v2 (.int .i64 2147483647) true) (k · h3)) fun v4 h5 =>
 bnd (aPick v1 v4 (.bool false)) fun v6 =>
 gd true v6 h5 (fun k => k x7 h5) fun v7 h8 =>
 gd true v6 h8 (fun k => bnd (aBinC tab .rem 3 v7 (.int .i64 2) true) (k · h8)) fun v9 h10 =>
 gd true v6 h10 (fun k => k x6 h10) fun v11 h12 =>
 gd true v6 h12 (fun k => bnd (aBinC tab .eql 3 v9 v11 false) (k · h12)) fun v13 h14 =>
 bnd (aPick v6 v13 (.bool false)) fun v15 =>
 gd true v15 h14 (fun k => k x7 h14) fun v16 h17 =>
 gd true v15 h17 (fun k => k x5 h17) fun v18 h19 =>
 gd true v15 h19 (fun k => bnd (aBinC tab .gtr 3 v16 v18 false) (k · h19)) fun v20 h21 =>
 bnd (aPick v15 v20 (.bool false)) fun v22 =>
 gd true v22 h21 (fun k => k x0 h21) fun v23 h24 =>
 gd true v22 h24 (fun k => k x6 h24) fun v25 h26 =>
 gd true v22 h26 (fun k => bnd2 (call md 57 [v23, v25] h26) k) fun v27 h28 =>
 gd true v22 h28 (fun k => k x7 h28) fun v29 h30 =>
 gd true v22 h30 (fun k => bnd2 (call md 67 [v29] h30) k) fun v31 h32 =>
 gd true v22 h32 (fun k => bnd2 (call md 22 [v27, v31] h32) k) fun v33 h34 =>
 bnd (aPick v22 v33 (.bool false)) fun v35 =>
 k .normal (st 110 [(0, x0), (5, x5), (6, x6), (7, x7), (56, v35)]) h34
 := fun _ _ _ _ _ _ => by kernel_rfl
theorem r40_9 (x0 x5 x6 x7 x56 : AV) : RR O40 40 110 9 false [(0, x0), (5, x5), (6, x6), (7, x7), (56, x56)] fun _ call md k h =>
 k .normal (st 110 [(0, x0), (5, x7), (6, x6)]) h
 := fun _ _ _ _ _ _ => by kernel_rfl
theorem r40_10 (x0 x5 x6 x25 : AV) : RR O40 40 110 10 false [(0, x0), (5, x5), (6, x6), (25, x25)] fun _ call md k h =>
 bnd (aBinC tab .eql 3 x5 (.int .i64 0) true) fun v1 =>
 k .normal (st 110 [(0, x0), (5, x5), (59, v1)]) h
 := fun _ _ _ _ _ _ => by kernel_rfl
theorem r40_11 (x0 x5 x59 : AV) : RR O40 40 110 11 false [(0, x0), (5, x5), (59, x59)] fun _ call md k h =>
 k .normal (st 110 [(0, x0), (5, (.int .i64 1))]) h
 := fun _ _ _ _ _ _ => by kernel_rfl
theorem r40_12 (x0 x5 : AV) : RR O40 40 110 12 false [(0, x0), (5, x5)] fun _ call md k h =>
 bnd2 (call md 68 [x0, (.int .i64 1)] h) fun v1 h2 =>
 bnd (aExtract v1 0) fun v3 =>
 bnd (aExtract v1 1) fun v4 =>
 k .normal (st 110 [(0, x0), (5, x5), (8, v3), (9, v4)]) h2
 := fun _ _ _ _ _ _ => by kernel_rfl
theorem r40_13 (x0 x5 x8 x9 : AV) : RR O40 40 110 13 false [(0, x0), (5, x5), (8, x8), (9, x9)] fun _ call md k h =>
 bnd2 (call md 29 [x0, x8, x9] h) fun v1 h2 =>
 k .normal (st 110 [(0, x0), (5, x5), (10, v1)]) h2
 := fun _ _ _ _ _ _ => by kernel_rfl
theorem r40_14 (x0 x5 x10 : AV) : RR O40 40 110 14 false [(0, x0), (5, x5), (10, x10)] fun _ call md k h =>
 bnd (aBinC tab .neq 27 x10 (.int .i64 0) true) fun v1 =>
 k .normal (st 110 [(0, x0), (5, x5), (10, x10), (70, v1)]) h
 := fun _ _ _ _ _ _ => by kernel_rfl
theorem r40_15 (x0 x5 x10 x70 : AV) : RR O40 40 110 15 false [(0, x0), (5, x5), (10, x10), (70, x70)] fun _ call md k h =>
 k .normal (st 110 [(2, .nilp), (3, .nils), (4, x10)]) h
 := fun _ _ _ _ _ _ => by kernel_rfl
theorem r40_16 (x0 x5 x10 x70 : AV) : RR O40 40 110 16 false [(0, x0), (5, x5), (10, x10), (70, x70)] fun _ call md k h =>
 bnd2 (call md 67 [(.int .i64 1)] h) fun v1 h2 =>
 bnd2 (call md 54 [x0, (.int .i64 1), v1] h2) fun v3 h4 =>
 k .normal (st 110 [(0, x0), (5, x5), (11, v3)]) h4
 := fun _ _ _ _ _ _ => by kernel_rfl
theorem r40_17 (x0 x5 x11 : AV) : RR O40 40 110 17 false [(0, x0), (5, x5), (11, x11)] fun _ call md k h =>
 bnd (aBinC tab .neq 27 x11 (.int .i64 0) true) fun v1 =>
 k .normal (st 110 [(0, x0), (5, x5), (11, x11), (76, v1)]) h
 := fun _ _ _ _ _ _ => by kernel_rfl
theorem r40_18 (x0 x5 x11 x76 : AV) : RR O40 40 110 18 false [(0, x0), (5, x5), (11, x11), (76, x76)] fun _ call md k h =>
 k .normal (st 110 [(2, .nilp), (3, .nils), (4, x11)]) h
 := fun _ _ _ _ _ _ => by kernel_rfl
theorem r40_19 (x0 x5 x11 x76 : AV) : RR O40 40 110 19 false [(0, x0), (5, x5), (11, x11), (76, x76)] fun _ call md k h =>
 bnd2 (call md 55 [x0] h) fun v1 h2 =>
 k .normal (st 110 [(0, x0), (5, x5), (12, v1)]) h2
 := fun _ _ _ _ _ _ => by kernel_rfl
theorem r40_20 (x0 x5 x12 : AV) : RR O40 40 110 20 false [(0, x0), (5, x5), (12, x12)] fun _ call md k h =>
 bnd (aBinC tab .neq 27 x12 (.int .i64 0) true) fun v1 =>
 k .normal (st 110 [(0, x0), (5, x5), (12, x12), (81, v1)]) h
 := fun _ _ _ _ _ _ => by kernel_rfl
theorem r40_21 (x0 x5 x12 x81 : AV) : RR O40 40 110 21 false [(0, x0), (5, x5), (12, x12), (81, x81)] fun _ call md k h =>
 k .normal (st 110 [(2, .nilp), (3, .nils), (4, x12)]) h
 := fun _ _ _ _ _ _ => by kernel_rfl
theorem r40_22a (x0 x5 x12 x81 : AV) : RR O40 40 110 22 false [(0, x0), (5, x5), (12, x12), (81, x81)] fun _ call md k h =>
 bnd2 (call md 68 [x0, x5] h) fun v1 h2 =>
 bnd (aExtract v1 0) fun v3 =>
 bnd (aExtract v1 1) fun v4 =>
 k .normal (st 110 [(0, x0), (5, x5), (13, v3), (14, v4)]) h2
 := fun _ _ _ _ _ _ => by kernel_rfl
theorem r40_22b (x0 x5 x59 : AV) : RR O40 40 110 22 false [(0, x0), (5, x5), (59, x59)] fun _ call md k h =>
 bnd2 (call md 68 [x0, x5] h) fun v1 h2 =>
 bnd (aExtract v1 0) fun v3 =>
 bnd (aExtract v1 1) fun v4 =>
 k .normal (st 110 [(0, x0), (5, x5), (13, v3), (14, v4)]) h2
 := fun _ _ _ _ _ _ => by kernel_rfl
theorem r40_23 (x0 x5 x13 x14 : AV) : RR O40 40 110 23 false [(0, x0), (5, x5), (13, x13), (14, x14)] fun _ call md k h =>
 bnd2 (call md 28 [x0, x13, x14, x5] h) fun v1 h2 =>
 bnd (aExtract v1 0) fun v3 =>
 bnd (aExtract v1 1) fun v4 =>
 k .normal (st 110 [(0, x0), (5, x5), (14, x14), (15, v3), (16, v4)]) h2
 := fun _ _ _ _ _ _ => by kernel_rfl
theorem r40_24 (x0 x5 x14 x15 x16 : AV) : RR O40 40 110 24 false [(0, x0), (5, x5), (14, x14), (15, x15), (16, x16)] fun _ call md k h =>
 bnd2 (call md 29 [x0, x16, x14] h) fun v1 h2 =>
 k .normal (st 110 [(0, x0), (5, x5), (15, x15), (16, x16), (17, v1)]) h2
 := fun _ _ _ _ _ _ => by kernel_rfl
theorem r40_25 (x0 x5 x15 x16 x17 : AV) : RR O40 40 110 25 false [(0, x0), (5, x5), (15, x15), (16, x16), (17, x17)] fun _ call md k h =>
 bnd (aBinC tab .neq 27 x17 (.int .i64 0) true) fun v1 =>
 k .normal (st 110 [(0, x0), (5, x5), (15, x15), (16, x16), (17, x17), (102, v1)]) h
 := fun _ _ _ _ _ _ => by kernel_rfl
theorem r40_26 (x0 x5 x15 x16 x17 x102 : AV) : RR O40 40 110 26 false [(0, x0), (5, x5), (15, x15), (16, x16), (17, x17), (102, x102)] fun _ call md k h =>
 k .normal (st 110 [(2, .nilp), (3, .nils), (4, x17)]) h
 := fun _ _ _ _ _ _ => by kernel_rfl
theorem r40_27 (x0 x5 x15 x16 x17 x102 : AV) : RR O40 40 110 27 false [(0, x0), (5, x5), (15, x15), (16, x16), (17, x17), (102, x102)] fun _ call md k h =>
 bnd (aBuild tab 76 [(0, x0), (1, x5), (2, x16)]) fun v1 =>
 bnd2 (aBoxv tab 76 v1 h) fun v2 h3 =>
 k .normal (st 110 [(2, v2), (3, x15), (4, (.int .i64 0))]) h3
 := fun _ _ _ _ _ _ => by kernel_rfl
def R40 := And.intro @r40_0 <| And.intro @r40_1 <| And.intro @r40_2 <| And.intro @r40_3 <| And.intro @r40_4 <| And.intro @r40_5 <| And.intro @r40_6a <| And.intro @r40_6b <| And.intro @r40_7 <| And.intro @r40_8 <| And.intro @r40_9 <| And.intro @r40_10 <| And.intro @r40_11 <| And.intro @r40_12 <| And.intro @r40_13 <| And.intro @r40_14 <| And.intro @r40_15 <| And.intro @r40_16 <| And.intro @r40_17 <| And.intro @r40_18 <| And.intro @r40_19 <| And.intro @r40_20 <| And.intro @r40_21 <| And.intro @r40_22a <| And.intro @r40_22b <| And.intro @r40_23 <| And.intro @r40_24 <| And.intro @r40_25 <| And.intro @r40_26 <| @r40_27
end Go.Ax

set_option linter.unusedVariables false
namespace Go.Ax
open Go Go.Proofs
noncomputable def O41 (i : Nat) : Array Oper := opsOf i (bodyOf Try.f41)
theorem s41 : bodyOf Try.f41 = (.seq (.region 0 (O41 0) false) (.seq (.seq (.region 1 (O41 1) false) (.cond (Go.Operand.tmp 12) (.seq (.region 2 (O41 2) false) .ret) .skip)) (.seq (.region 3 (O41 3) true) (.seq (.region 4 (O41 4) true) (.seq (.seq (.region 5 (O41 5) false) (.cond (Go.Operand.tmp 44) (.region 6 (O41 6) false) .skip)) (.seq (.region 7 (O41 7) false) (.seq (.region 8 (O41 8) false) .ret))))))) := by kernel_rfl
theorem e41 : E0 41 = some ⟨55, [4], bodyOf Try.f41⟩ := by kernel_rfl
theorem r41_0 (x0 x1 : AV) : RR O41 41 55 0 false [(0, x0), (1, x1)] fun _ call md k h =>
 k .normal (st 55 [(0, x0), (1, x1)]) h
 := fun _ _ _ _ _ _ => by kernel_rfl
theorem r41_1 (x0 x1 : AV) : RR O41 41 55 1 false [(0, x0), (1, x1)] fun _ call md k h =>
 bnd (aNil x0) fun v1 =>
 bnd (aFieldAddr tab 76 v1 3) fun v2 =>
 bnd (aLoad tab 4 v2 h) fun v3 =>
 k .normal (st 55 [(0, x0), (1, x1), (12, v3)]) h
 := fun _ _ _ _ _ _ => by kernel_rfl
theorem r41_2 (x0 x1 x12 : AV) : RR O41 41 55 2 false [(0, x0), (1, x1), (12, x12)] fun _ call md k h =>
 k .normal (st 55 [(4, (.int .i64 4))]) h
 := fun _ _ _ _ _ _ => by kernel_rfl
theorem r41_3 (x0 x1 x12 : AV) : RR O41 41 55 3 true [(0, x0), (1, x1), (12, x12)] fun _ call md k h =>
 bnd (aNil x0) fun v1 =>
 bnd (aFieldAddr tab 76 v1 0) fun v2 =>
 bnd (aLoad tab 50 v2 h) fun v3 =>
 bnd (aNil x0) fun v4 =>
 bnd (aFieldAddr tab 76 v4 1) fun v5 =>
 bnd (aLoad tab 3 v5 h) fun v6 =>
 bnd2 (call md 68 [v3, v6] h) fun v7 h8 =>
 bnd (aExtract v7 0) fun v9 =>
 bnd (aExtract v7 1) fun v10 =>
 k .normal (st 55 [(0, x0), (1, x1), (6, v10)]) h8
 := RRd (by kernel_rfl) (by kernel_rfl) (fun _ _ _ _ _ => by kernel_rfl)
theorem r41_4 (x0 x1 x6 : AV) : RR O41 41 55 4 true [(0, x0), (1, x1), (6, x6)] fun _ call md k h =>
 bnd (aNil x0) fun v1 =>
 bnd (aFieldAddr tab 76 v1 0) fun v2 =>
 bnd (aLoad tab 50 v2 h) fun v3 =>
 bnd (aNil x0) fun v4 =>
 bnd (aFieldAddr tab 76 v4 2) fun v5 =>
 bnd (aLoad tab 3 v5 h) fun v6 =>
 bnd (aNil x0) fun v7 =>
 bnd (aFieldAddr tab 76 v7 1) fun v8 =>
 bnd (aLoad tab 3 v8 h) fun v9 =>
 bnd2 (call md 69 [v3, v6, x6, v9, x1] h) fun v10 h11 =>
 bnd (aExtract v10 0) fun v12 =>
 bnd (aExtract v10 1) fun v13 =>
 k .normal (st 55 [(0, x0), (7, v12), (8, v13)]) h11
 := RRd (by kernel_rfl) (by kernel_rfl) (fun _ _ _ _ _ => by kernel_rfl)
theorem r41_5 (x0 x7 x8 : AV) : RR O41 41 55 5 false [(0, x0), (7, x7), (8, x8)] fun _ call md k h =>
 bnd (aBinC tab .eql 27 x8 (.int .i64 0) true) fun v1 =>
 k .normal (st 55 [(0, x0), (7, x7), (8, x8), (44, v1)]) h
 := fun _ _ _ _ _ _ => by kernel_rfl
theorem r41_6 (x0 x7 x8 x44 : AV) : RR O41 41 55 6 false [(0, x0), (7, x7), (8, x8), (44, x44)] fun _ call md k h =>
 bnd (aNil x0) fun v1 =>
 bnd (aFieldAddr tab 76 v1 2) fun v2 =>
 bnd (aStore tab 3 v2 x7 h) fun h3 =>
 k .normal (st 55 [(0, x0), (8, x8)]) h3
 := fun _ _ _ _ _ _ => by kernel_rfl
theorem r41_7a (x0 x7 x8 x44 : AV) : RR O41 41 55 7 false [(0, x0), (7, x7), (8, x8), (44, x44)] fun _ call md k h =>
 bnd (aBinC tab .eql 27 x8 (.int .i64 4) true) fun v1 =>
 bnd (aNil x0) fun v2 =>
 bnd (aFieldAddr tab 76 v2 3) fun v3 =>
 bnd (aStore tab 4 v3 v1 h) fun h4 =>
 k .normal (st 55 [(8, x8)]) h4
 := fun _ _ _ _ _ _ => by kernel_rfl
theorem r41_7b (x0 x8 : AV) : RR O41 41 55 7 false [(0, x0), (8, x8)] fun _ call md k h =>
 bnd (aBinC tab .eql 27 x8 (.int .i64 4) true) fun v1 =>
 bnd (aNil x0) fun v2 =>
 bnd (aFieldAddr tab 76 v2 3) fun v3 =>
 bnd (aStore tab 4 v3 v1 h) fun h4 =>
 k .normal (st 55 [(8, x8)]) h4
 := fun _ _ _ _ _ _ => by kernel_rfl
theorem r41_8 (x8 : AV) : RR O41 41 55 8 false [(8, x8)] fun _ call md k h =>
 k .normal (st 55 [(4, x8)]) h
 := fun _ _ _ _ _ _ => by kernel_rfl
def R41 := And.intro @r41_0 <| And.intro @r41_1 <| And.intro @r41_2 <| And.intro @r41_3 <| And.intro @r41_4 <| And.intro @r41_5 <| And.intro @r41_6 <| And.intro @r41_7a <| And.intro @r41_7b <| @r41_8
end Go.Ax

set_option linter.unusedVariables false
namespace Go.Ax
open Go Go.Proofs
noncomputable def O42 (i : Nat) : Array Oper := opsOf i (bodyOf Try.f42)
theorem s42 : bodyOf Try.f42 = (.seq (.region 0 (O42 0) false) (.seq (.seq (.region 1 (O42 1) false) (.cond (Go.Operand.tmp 13) (.seq (.region 2 (O42 2) false) .ret) .skip)) (.seq (.region 3 (O42 3) false) (.seq (.region 4 (O42 4) false) (.seq (.seq (.region 5 (O42 5) false) (.cond (Go.Operand.tmp 30) (.seq (.region 6 (O42 6) false) .ret) .skip)) (.seq (.seq (.region 7 (O42 7) false) (.cond (Go.Operand.tmp 41) (.seq (.region 8 (O42 8) false) .ret) .skip)) (.seq (.region 9 (O42 9) false) (.seq (.region 10 (O42 10) false) (.seq (.seq (.region 11 (O42 11) false) (.cond (Go.Operand.tmp 50) (.region 12 (O42 12) false) .skip)) (.seq (.seq (.region 13 (O42 13) false) (.cond (Go.Operand.tmp 64) (.region 14 (O42 14) true) .skip)) (.seq (.seq (.region 15 (O42 15) false) (.cond (Go.Operand.tmp 75) (.region 16 (O42 16) false) .skip)) (.seq (.seq (.region 17 (O42 17) false) (.cond (Go.Operand.tmp 82) (.region 18 (O42 18) false) .skip)) (.seq (.region 19 (O42 19) false) (.seq (.region 20 (O42 20) false) .ret)))))))))))))) := by kernel_rfl
theorem e42 : E0 42 = some ⟨97, [4], bodyOf Try.f42⟩ := by kernel_rfl
theorem r42_0 (x0 x1 : AV) : RR O42 42 97 0 false [(0, x0), (1, x1)] fun _ call md k h =>
 k .normal (st 97 [(0, x0), (1, x1)]) h
 := fun _ _ _ _ _ _ => by kernel_rfl
theorem r42_1 (x0 x1 : AV) : RR O42 42 97 1 false [(0, x0), (1, x1)] fun _ call md k h =>
 bnd (aNil x0) fun v1 =>
 bnd (aFieldAddr tab 76 v1 3) fun v2 =>
 bnd (aLoad tab 4 v2 h) fun v3 =>
 k .normal (st 97 [(0, x0), (1, x1), (13, v3)]) h
 := fun _ _ _ _ _ _ => by kernel_rfl
theorem r42_2 (x0 x1 x13 : AV) : RR O42 42 97 2 false [(0, x0), (1, x1), (13, x13)] fun _ call md k h =>
 k .normal (st 97 [(4, (.int .i64 4))]) h
 := fun _ _ _ _ _ _ => by kernel_rfl
theorem r42_3 (x0 x1 x13 : AV) : RR O42 42 97 3 false [(0, x0), (1, x1), (13, x13)] fun _ call md k h =>
 bnd (aNil x0) fun v1 =>
 bnd (aFieldAddr tab 76 v1 1) fun v2 =>
 bnd (aLoad tab 3 v2 h) fun v3 =>
 bnd (aBinC tab .add 3 v3 (.int .i64 1) true) fun v4 =>
 k .normal (st 97 [(0, x0), (1, x1), (5, v4)]) h
 := fun _ _ _ _ _ _ => by kernel_rfl
theorem r42_4 (x0 x1 x5 : AV) : RR O42 42 97 4 false [(0, x0), (1, x1), (5, x5)] fun _ call md k h =>
 bnd (aNil x0) fun v1 =>
 bnd (aFieldAddr tab 76 v1 0) fun v2 =>
 bnd (aLoad tab 50 v2 h) fun v3 =>
 bnd2 (call md 68 [v3, x5] h) fun v4 h5 =>
 bnd (aExtract v4 0) fun v6 =>
 bnd (aExtract v4 1) fun v7 =>
 k .normal (st 97 [(0, x0), (1, x1), (5, x5), (6, v6), (7, v7)]) h5
 := fun _ _ _ _ _ _ => by kernel_rfl
theorem r42_5 (x0 x1 x5 x6 x7 : AV) : RR O42 42 97 5 false [(0, x0), (1, x1), (5, x5), (6, x6), (7, x7)] fun _ call md k h =>
 bnd (aLen tab 22 x1) fun v1 =>
 bnd (aBinC tab .gtr 3 v1 (.int .i64 8192) true) fun v2 =>
 k .normal (st 97 [(0, x0), (1, x1), (5, x5), (6, x6), (7, x7), (30, v2)]) h
 := fun _ _ _ _ _ _ => by kernel_rfl
theorem r42_6 (x0 x1 x5 x6 x7 x30 : AV) : RR O42 42 97 6 false [(0, x0), (1, x1), (5, x5), (6, x6), (7, x7), (30, x30)] fun _ call md k h =>
 k .normal (st 97 [(4, (.int .i64 1))]) h
 := fun _ _ _ _ _ _ => by kernel_rfl
theorem r42_7 (x0 x1 x5 x6 x7 x30 : AV) : RR O42 42 97 7 false [(0, x0), (1, x1), (5, x5), (6, x6), (7, x7), (30, x30)] fun _ call md k h =>
 bnd (aBinC tab .gtr 3 x5 (.int .i64 2147483647) true) fun v1 =>
 gd false v1 h (fun k => k x1 h) fun v2 h3 =>
 gd false v1 h3 (fun k => bnd2 (call md 32 [(.int .i64 0), v2] h3) k) fun v4 h5 =>
 gd false v1 h5 (fun k => bnd (aLen tab 30 v4) (k · h5)) fun v6 h7 =>
 gd false v1 h7 (fun k => k x7 h7) fun v8 h9 =>
 gd false v1 h9 (fun k => k x6 h9) fun v10 h11 =>
 gd false v1 h11 (fun k => bnd (aBinC tab .sub 3 v8 v10 false) (k · h11)) fun v12 h13 =>
 gd false v1 h13 (fun k => bnd (aBinC tab .gtr 3 v6 v12 false) (k · h13)) fun v14 h15 =>
 bnd (aPick v1 (.bool true) v14) fun v16 =>
 k .normal (st 97 [(0, x0), (1, x1), (5, x5), (6, x6), (7, x7), (41, v16)]) h15
 := fun _ _ _ _ _ _ => by kernel_rfl
theorem r42_8 (x0 x1 x5 x6 x7 x41 : AV) : RR O42 42 97 8 false [(0, x0), (1, x1), (5, x5), (6, x6), (7, x7), (41, x41)] fun _ call md k h =>
 k .normal (st 97 [(4, (.int .i64 3))]) h
 := fun _ _ _ _ _ _ => by kernel_rfl
theorem r42_9 (x0 x1 x5 x6 x7 x41 : AV) : RR O42 42 97 9 false [(0, x0), (1, x1), (5, x5), (6, x6), (7, x7), (41, x41)] fun _ call md k h =>
 bnd (aNil x0) fun v1 =>
 bnd (aFieldAddr tab 76 v1 0) fun v2 =>
 bnd (aLoad tab 50 v2 h) fun v3 =>
 bnd2 (call md 29 [v3, x6, x7] h) fun v4 h5 =>
 k .normal (st 97 [(0, x0), (1, x1), (5, x5), (6, x6), (7, x7), (8, v4)]) h5
 := fun _ _ _ _ _ _ => by kernel_rfl
theorem r42_10 (x0 x1 x5 x6 x7 x8 : AV) : RR O42 42 97 10 false [(0, x0), (1, x1), (5, x5), (6, x6), (7, x7), (8, x8)] fun _ call md k h =>
 k .normal (st 97 [(0, x0), (1, x1), (5, x5), (6, x6), (7, x7), (8, x8), (9, (.int .i64 0))]) h
 := fun _ _ _ _ _ _ => by kernel_rfl
theorem r42_11 (x0 x1 x5 x6 x7 x8 x9 : AV) : RR O42 42 97 11 false [(0, x0), (1, x1), (5, x5), (6, x6), (7, x7), (8, x8), (9, x9)] fun _ call md k h =>
 bnd (aBinC tab .eql 27 x8 (.int .i64 0) true) fun v1 =>
 k .normal (st 97 [(0, x0), (1, x1), (5, x5), (6, x6), (7, x7), (8, x8), (9, x9), (50, v1)]) h
 := fun _ _ _ _ _ _ => by kernel_rfl
theorem r42_12 (x0 x1 x5 x6 x7 x8 x9 x50 : AV) : RR O42 42 97 12 false [(0, x0), (1, x1), (5, x5), (6, x6), (7, x7), (8, x8), (9, x9), (50, x50)] fun _ call md k h =>
 bnd (aNil x0) fun v1 =>
 bnd (aFieldAddr tab 76 v1 0) fun v2 =>
 bnd (aLoad tab 50 v2 h) fun v3 =>
 bnd2 (call md 69 [v3, x6, x7, x5, x1] h) fun v4 h5 =>
 bnd (aExtract v4 0) fun v6 =>
 bnd (aExtract v4 1) fun v7 =>
 k .normal (st 97 [(0, x0), (5, x5), (8, v7), (9, v6)]) h5
 := fun _ _ _ _ _ _ => by kernel_rfl
theorem r42_13a (x0 x1 x5 x6 x7 x8 x9 x50 : AV) : RR O42 42 97 13 false [(0, x0), (1, x1), (5, x5), (6, x6), (7, x7), (8, x8), (9, x9), (50, x50)] fun _ call md k h =>
 bnd (aBinC tab .eql 27 x8 (.int .i64 0) true) fun v1 =>
 k .normal (st 97 [(0, x0), (5, x5), (8, x8), (9, x9), (64, v1)]) h
 := fun _ _ _ _ _ _ => by kernel_rfl
theorem r42_13b (x0 x5 x8 x9 : AV) : RR O42 42 97 13 false [(0, x0), (5, x5), (8, x8), (9, x9)] fun _ call md k h =>
 bnd (aBinC tab .eql 27 x8 (.int .i64 0) true) fun v1 =>
 k .normal (st 97 [(0, x0), (5, x5), (8, x8), (9, x9), (64, v1)]) h
 := fun _ _ _ _ _ _ => by kernel_rfl
theorem r42_14 (x0 x5 x8 x9 x64 : AV) : RR O42 42 97 14 true [(0, x0), (5, x5), (8, x8), (9, x9), (64, x64)] fun _ call md k h =>
 bnd (aNil x0) fun v1 =>
 bnd (aFieldAddr tab 76 v1 0) fun v2 =>
 bnd (aLoad tab 50 v2 h) fun v3 =>
 bnd (aBinC tab .rem 3 x5 (.int .i64 2) true) fun v4 =>
 bnd2 (call md 67 [x5] h) fun v5 h6 =>
 bnd2 (call md 54 [v3, v4, v5] h6) fun v7 h8 =>
 onT (rdSame (aLoad tab 50 v2 h6) v3) <|
 k .normal (st 97 [(0, x0), (5, x5), (8, v7), (9, x9)]) h8
 := RRp [(3, 7)] (by kernel_rfl) (by kernel_rfl) (fun _ _ _ _ _ => by kernel_rfl)
theorem r42_15a (x0 x5 x8 x9 x64 : AV) : RR O42 42 97 15 false [(0, x0), (5, x5), (8, x8), (9, x9), (64, x64)] fun _ call md k h =>
 bnd (aBinC tab .eql 27 x8 (.int .i64 0) true) fun v1 =>
 k .normal (st 97 [(0, x0), (5, x5), (8, x8), (9, x9), (75, v1)]) h
 := fun _ _ _ _ _ _ => by kernel_rfl
theorem r42_15b (x0 x5 x8 x9 : AV) : RR O42 42 97 15 false [(0, x0), (5, x5), (8, x8), (9, x9)] fun _ call md k h =>
 bnd (aBinC tab .eql 27 x8 (.int .i64 0) true) fun v1 =>
 k .normal (st 97 [(0, x0), (5, x5), (8, x8), (9, x9), (75, v1)]) h
 := fun _ _ _ _ _ _ => by kernel_rfl
theorem r42_16 (x0 x5 x8 x9 x75 : AV) : RR O42 42 97 16 false [(0, x0), (5, x5), (8, x8), (9, x9), (75, x75)] fun _ call md k h =>
 bnd (aNil x0) fun v1 =>
 bnd (aFieldAddr tab 76 v1 0) fun v2 =>
 bnd (aLoad tab 50 v2 h) fun v3 =>
 bnd2 (call md 55 [v3] h) fun v4 h5 =>
 k .normal (st 97 [(0, x0), (5, x5), (8, v4), (9, x9)]) h5
 := fun _ _ _ _ _ _ => by kernel_rfl
theorem r42_17a (x0 x5 x8 x9 x75 : AV) : RR O42 42 97 17 false [(0, x0), (5, x5), (8, x8), (9, x9), (75, x75)] fun _ call md k h =>
 bnd (aBinC tab .eql 27 x8 (.int .i64 0) true) fun v1 =>
 k .normal (st 97 [(0, x0), (5, x5), (8, x8), (9, x9), (82, v1)]) h
 := fun _ _ _ _ _ _ => by kernel_rfl
theorem r42_17b (x0 x5 x8 x9 : AV) : RR O42 42 97 17 false [(0, x0), (5, x5), (8, x8), (9, x9)] fun _ call md k h =>
 bnd (aBinC tab .eql 27 x8 (.int .i64 0) true) fun v1 =>
 k .normal (st 97 [(0, x0), (5, x5), (8, x8), (9, x9), (82, v1)]) h
 := fun _ _ _ _ _ _ => by kernel_rfl
theorem r42_18 (x0 x5 x8 x9 x82 : AV) : RR O42 42 97 18 false [(0, x0), (5, x5), (8, x8), (9, x9), (82, x82)] fun _ call md k h =>
 bnd (aNil x0) fun v1 =>
 bnd (aFieldAddr tab 76 v1 1) fun v2 =>
 bnd (aStore tab 3 v2 x5 h) fun h3 =>
 bnd (aNil x0) fun v4 =>
 bnd (aFieldAddr tab 76 v4 2) fun v5 =>
 bnd (aStore tab 3 v5 x9 h3) fun h6 =>
 k .normal (st 97 [(0, x0), (8, x8)]) h6
 := fun _ _ _ _ _ _ => by kernel_rfl
theorem r42_19a (x0 x5 x8 x9 x82 : AV) : RR O42 42 97 19 false [(0, x0), (5, x5), (8, x8), (9, x9), (82, x82)] fun _ call md k h =>
 bnd (aBinC tab .eql 27 x8 (.int .i64 4) true) fun v1 =>
 bnd (aNil x0) fun v2 =>
 bnd (aFieldAddr tab 76 v2 3) fun v3 =>
 bnd (aStore tab 4 v3 v1 h) fun h4 =>
 k .normal (st 97 [(8, x8)]) h4
 := fun _ _ _ _ _ _ => by kernel_rfl
theorem r42_19b (x0 x8 : AV) : RR O42 42 97 19 false [(0, x0), (8, x8)] fun _ call md k h =>
 bnd (aBinC tab .eql 27 x8 (.int .i64 4) true) fun v1 =>
 bnd (aNil x0) fun v2 =>
 bnd (aFieldAddr tab 76 v2 3) fun v3 =>
 bnd (aStore tab 4 v3 v1 h) fun h4 =>
 k .normal (st 97 [(8, x8)]) h4
 := fun _ _ _ _ _ _ => by kernel_rfl
theorem r42_20 (x8 : AV) : RR O42 42 97 20 false [(8, x8)] fun _ call md k h =>
 k .normal (st 97 [(4, x8)]) h
 := fun _ _ _ _ _ _ => by kernel_rfl
def R42 := And.intro @r42_0 <| And.intro @r42_1 <| And.intro @r42_2 <| And.intro @r42_3 <| And.intro @r42_4 <| And.intro @r42_5 <| And.intro @r42_6 <| And.intro @r42_7 <| And.intro @r42_8 <| And.intro @r42_9 <| And.intro @r42_10 <| And.intro @r42_11 <| And.intro @r42_12 <| And.intro @r42_13a <| And.intro @r42_13b <| And.intro @r42_14 <| And.intro @r42_15a <| And.intro @r42_15b <| And.intro @r42_16 <| And.intro @r42_17a <| And.intro @r42_17b <| And.intro @r42_18 <| And.intro @r42_19a <| And.intro @r42_19b <| @r42_20
end Go.Ax

namespace Go.Ax
open Go Go.Proofs
theorem super_same {c : List UInt8} (hc : c.length = 64) (g : Nat) : c = pad (superOf g) ↔ superOf g = c.take 8 ∧ (c.drop 8).all (· == 0) = true := by
  constructor
  · rintro rfl
    refine ⟨by have := @pad_take (superOf g); rw [superOf_length] at this; exact this.symm, ?_⟩
    have : (pad (superOf g)).drop 8 = List.replicate 56 0 := by
      have := @pad_drop (superOf g)
      rw [superOf_length] at this
      exact this
    rw [this]; exact all_zero _
  · rintro ⟨h1, h2⟩
    have e : c.drop 8 = List.replicate 56 0 := by
      refine List.eq_replicate_iff.2 ⟨by simp [hc], fun b hb => ?_⟩
      simpa using List.all_eq_true.1 h2 b hb
    unfold pad
    rw [superOf_length, ← e, h1, List.take_append_drop]
theorem ropen_step {S : Obs} {p r : Nat} {d : Dk} (hn : 2 ≤ d.lasts.length) (hl : d.loose.length < 2 ^ 28) (N : Nat) (hN : d.loose.length + 200 < N) (i best : Nat) (hi : i < 2) (n : Nat) (h : Heap) (D : Rsk S h p r d) :
    ∃ h', (∀ K : Ex → List AV → Heap → Option (AV × Heap), loopK (fun next => runK C0 (exFn C0 E0 (N + 1)) false 40 (N + 1) B40_1 (seqE next K)) (n + 1) (st 110 [(0, rp p), (5, .int .i64 best), (6, .int .i64 i)]) h =
      loopK (fun next => runK C0 (exFn C0 E0 (N + 1)) false 40 (N + 1) B40_1 (seqE next K)) n (st 110 [(0, rp p), (5, .int .i64 (max best (superGen ((d.now[i]?).getD []) i) : Nat)), (6, .int .i64 ((i + 1 : Nat) : Int))]) h') ∧ Keep (From h.length) h h' := by
  have e : decide (((i : Nat) : Int) < 2) = true := decide_eq_true (by omega)
  have wr : IntKind.i64.wrap ((i : Int) + 1) = ((i + 1 : Nat) : Int) := by rw [wrap_i64] <;> omega
  obtain ⟨y, r1, r2⟩ := rread_ok D (by omega) (i : Int) false N (by omega)
  have hnl : d.now.length = d.lasts.length := land_length _ _
  have hlt : i < d.now.length := by omega
  have hrd : d.rread (i : Int) = d.now[i] := by
    unfold Dk.rread
    rw [if_pos ⟨by omega, by omega⟩, Int.toNat_natCast, List.getElem?_eq_getElem hlt]
    rfl
  rw [hrd] at r2
  have hnc : ∀ b ∈ d.now, b.length = 64 := land_cells _ _ D.cells fun w hw => (D.loose w hw).2
  have hlen := hnc _ (List.getElem_mem hlt)
  rw [List.getElem?_eq_getElem hlt, Option.getD_some]
  generalize d.now[i] = c at *
  have g1 := num_ok r2 (by omega) false h N
  have hg : (get4 c).toNat < 2 ^ 32 := (get4 c).isLt
  have hsg : superGen c i = if (1 ≤ (get4 c).toNat ∧ (get4 c).toNat ≤ 2147483647 ∧ (get4 c).toNat % 2 = i) ∧ superOf (get4 c).toNat = c.take 8 ∧ (c.drop 8).all (· == 0) = true then (get4 c).toNat else 0 := rfl
  generalize (get4 c).toNat = g at *
  have rm := rem2_i64 g (by omega) true
  have hbest : ∀ z : Nat, superGen c i = z → z = 0 ∨ z ≤ best → (max best (superGen c i) : Nat) = best := fun z h1 h2 => by rw [h1]; omega
  by_cases q1 : 1 ≤ g
  case neg =>
    have e1 : decide ((1 : Int) ≤ (g : Int)) = false := decide_eq_false (by omega)
    have hz : superGen c i = 0 := by rw [hsg, if_neg]; omega
    refine ⟨h, fun K => ?_, Keep.refl _ _⟩
    rw [hbest 0 hz (.inl rfl), loopK_succ]
    generalize loopK (_ : (List AV → Heap → Option (AV × Heap)) → List AV → Heap → Option (AV × Heap)) n = Lp
    simp -implicitDefEqProofs only [B40_1, ↓RK, RK, ↓RB, RB, decide_true, decide_false, STs, Nat.reduceBEq, ↓reduceIte, Nat.reduceLT, ↓R40, R40, bin_lss, e, r1, g1, bin_geq, e1, bin_add, wr]
  have e1 : decide ((1 : Int) ≤ (g : Int)) = true := decide_eq_true (by omega)
  by_cases q2 : g ≤ 2147483647
  case neg =>
    have e2 : decide ((g : Int) ≤ 2147483647) = false := decide_eq_false (by omega)
    have hz : superGen c i = 0 := by rw [hsg, if_neg]; omega
    refine ⟨h, fun K => ?_, Keep.refl _ _⟩
    rw [hbest 0 hz (.inl rfl), loopK_succ]
    generalize loopK (_ : (List AV → Heap → Option (AV × Heap)) → List AV → Heap → Option (AV × Heap)) n = Lp
    simp -implicitDefEqProofs only [B40_1, ↓RK, RK, ↓RB, RB, decide_true, decide_false, STs, Nat.reduceBEq, ↓reduceIte, Nat.reduceLT, ↓R40, R40, bin_lss, e, r1, g1, bin_geq, e1, bin_leq, e2, bin_add, wr]
  have e2 : decide ((g : Int) ≤ 2147483647) = true := decide_eq_true (by omega)
  by_cases q3 : g % 2 = i
  case neg =>
    have e3 : decide (((g % 2 : Nat) : Int) = (i : Int)) = false := decide_eq_false (by omega)
    have hz : superGen c i = 0 := by rw [hsg, if_neg]; rintro ⟨⟨-, -, h⟩, -⟩; exact q3 h
    refine ⟨h, fun K => ?_, Keep.refl _ _⟩
    rw [hbest 0 hz (.inl rfl), loopK_succ]
    generalize loopK (_ : (List AV → Heap → Option (AV × Heap)) → List AV → Heap → Option (AV × Heap)) n = Lp
    simp -implicitDefEqProofs only [B40_1, ↓RK, RK, ↓RB, RB, decide_true, decide_false, STs, Nat.reduceBEq, ↓reduceIte, Nat.reduceLT, ↓R40, R40, bin_lss, e, r1, g1, bin_geq, e1, bin_leq, e2, rm, bin_eql, e3, bin_add, wr]
  have e3 : decide (((g % 2 : Nat) : Int) = (i : Int)) = true := decide_eq_true (by omega)
  by_cases q4 : best < g
  case neg =>
    have e4 : decide ((best : Int) < (g : Int)) = false := decide_eq_false (by omega)
    have hz : superGen c i = 0 ∨ superGen c i ≤ best := by
      rw [hsg]
      split
      · exact .inr (by omega)
      · exact .inl rfl
    refine ⟨h, fun K => ?_, Keep.refl _ _⟩
    rw [hbest _ rfl hz, loopK_succ]
    generalize loopK (_ : (List AV → Heap → Option (AV × Heap)) → List AV → Heap → Option (AV × Heap)) n = Lp
    simp -implicitDefEqProofs only [B40_1, ↓RK, RK, ↓RB, RB, decide_true, decide_false, STs, Nat.reduceBEq, ↓reduceIte, Nat.reduceLT, ↓R40, R40, bin_lss, e, r1, g1, bin_geq, e1, bin_leq, e2, rm, bin_eql, e3, bin_gtr, e4, bin_add, wr]
  have e4 : decide ((best : Int) < (g : Int)) = true := decide_eq_true (by omega)
  obtain ⟨x2, h2, s1, s2, s3⟩ := rsuper_ok g h N (by omega)
  have D2 := D.fresh s3
  have sm := same_ok r2 s2 (by omega) false h2 (N + 1) (by omega)
  by_cases q5 : c = pad (superOf g)
  · have hz : superGen c i = g := by rw [hsg, if_pos ⟨⟨by omega, by omega, q3⟩, (super_same hlen g).1 q5⟩]
    have mx : (max best (superGen c i) : Nat) = g := by rw [hz]; omega
    rw [decide_eq_true q5] at sm
    refine ⟨h2, fun K => ?_, s3⟩
    rw [mx, loopK_succ]
    generalize loopK (_ : (List AV → Heap → Option (AV × Heap)) → List AV → Heap → Option (AV × Heap)) n = Lp
    simp -implicitDefEqProofs only [B40_1, ↓RK, RK, ↓RB, RB, decide_true, decide_false, STs, Nat.reduceBEq, ↓reduceIte, Nat.reduceLT, ↓R40, R40, bin_lss, e, r1, g1, bin_geq, e1, bin_leq, e2, rm, bin_eql, e3, bin_gtr, e4, s1, sm, bin_add, wr]
  · have hz : superGen c i = 0 := by rw [hsg, if_neg]; rintro ⟨-, h⟩; exact q5 ((super_same hlen g).2 h)
    rw [decide_eq_false q5] at sm
    refine ⟨h2, fun K => ?_, s3⟩
    rw [hbest 0 hz (.inl rfl), loopK_succ]
    generalize loopK (_ : (List AV → Heap → Option (AV × Heap)) → List AV → Heap → Option (AV × Heap)) n = Lp
    simp -implicitDefEqProofs only [B40_1, ↓RK, RK, ↓RB, RB, decide_true, decide_false, STs, Nat.reduceBEq, ↓reduceIte, Nat.reduceLT, ↓R40, R40, bin_lss, e, r1, g1, bin_geq, e1, bin_leq, e2, rm, bin_eql, e3, bin_gtr, e4, s1, sm, bin_add, wr]
def Dk.rinstall (d : Dk) (gen : Nat) : Int × Dk :=
  let w := d.rwrite ((gen % 2 : Nat) : Int) (pad (superOf gen))
  if w.1 ≠ 0 then w else w.2.rflush
def Dk.rformat (d : Dk) : Int × Dk :=
  let c := d.rclean (fromOf d.lasts.length 1 : Nat) (toOf d.lasts.length 1 : Nat)
  if c.1 ≠ 0 then c else c.2.rinstall 1
def Dk.ropen (d : Dk) : Int × Wl × List (List UInt8) :=
  let n := d.lasts.length
  let g := newest d.now
  let f := if g = 0 then d.rformat else (0, d)
  if f.1 ≠ 0 then (f.1, ⟨f.2, 0, 0, false⟩, [])
  else
    let gen := if g = 0 then 1 else g
    let sc := f.2.scan (fromOf n gen : Nat) (toOf n gen : Nat) gen
    let c := f.2.rclean sc.2 (toOf n gen : Nat)
    if c.1 ≠ 0 then (c.1, ⟨c.2, 0, 0, false⟩, []) else (0, ⟨c.2, gen, sc.2, false⟩, sc.1)
def rlv (p gen : Nat) (pos : Int) (w : Bool) : Obj := .var 76 (.agg 75 [rp p, .int .i64 gen, .int .i64 pos, .bool w])
abbrev rlp (q : Nat) : AV := .ref q [] 75
structure Rlk (S : Obs) (h : Heap) (q p r : Nat) (w : Wl) : Prop where
  hq : S q
  var : h[q]? = some (rlv p w.gen w.pos w.down)
  dsk : Rsk (fun i => S i ∧ i ≠ q) h p r w.d
theorem bld76 (p gen : Nat) (pos : Int) : aBuild tab 76 [(0, rp p), (1, .int .i64 gen), (2, .int .i64 pos)] = some (.agg 75 [rp p, .int .i64 gen, .int .i64 pos, .bool false]) := by kernel_rfl
theorem box76 (p gen : Nat) (pos : Int) (h : Heap) : aBoxv tab 76 (.agg 75 [rp p, .int .i64 gen, .int .i64 pos, .bool false]) h = some (rlp h.length, h ++ [rlv p gen pos false]) := by
  simp [aBoxv, fits, rlv]
theorem Rlk.new {S : Obs} {h : Heap} {p r gen : Nat} {pos : Int} {d : Dk} (D : Rsk S h p r d) (up : Up S h) : Rlk S (h ++ [rlv p gen pos false]) h.length p r ⟨d, gen, pos, false⟩ := by
  refine ⟨up _ (Nat.le_refl _), by simp, ?_⟩
  exact (D.cap.keep (U := From h.length) (Keep.app h _ (Up.fresh h)) fun i hi _ hj => Nat.not_le.2 hi hj).mono fun i hi => ⟨hi.1, by have := hi.2; omega⟩
theorem rclean_sz (d : Dk) (a e : Int) (hl : d.lasts.length ≤ 1024) : (d.rclean a e).2.loose.length ≤ d.loose.length + 1024 ∧ (d.rclean a e).2.fuse ≤ d.fuse ∧ (d.rclean a e).2.lasts.length = d.lasts.length := by
  have hc := rcleanLoop_loose (min e d.lasts.length - max a 0).toNat (max a 0).toNat false d
  unfold Dk.rclean
  generalize rcleanLoop (min e d.lasts.length - max a 0).toNat (max a 0).toNat false d = L at *
  obtain ⟨l1, l2, l3⟩ := L
  simp only at hc ⊢
  split
  · simp only; omega
  · split
    · have h1 := rflush_fuse l3
      have h2 := rflush_loose l3
      have h3 := rflush_len l3
      omega
    · simp only; omega
theorem rinstall_sz (d : Dk) (gen : Nat) : (d.rinstall gen).2.loose.length ≤ d.loose.length + 1 ∧ (d.rinstall gen).2.fuse ≤ d.fuse ∧ (d.rinstall gen).2.lasts.length = d.lasts.length := by
  have h1 := rwrite_loose d ((gen % 2 : Nat) : Int) (pad (superOf gen))
  have h2 := rwrite_fuse d ((gen % 2 : Nat) : Int) (pad (superOf gen))
  have h3 := rwrite_len d ((gen % 2 : Nat) : Int) (pad (superOf gen))
  unfold Dk.rinstall
  simp only
  split
  · omega
  · have h4 := rflush_fuse (d.rwrite ((gen % 2 : Nat) : Int) (pad (superOf gen))).2
    have h5 := rflush_loose (d.rwrite ((gen % 2 : Nat) : Int) (pad (superOf gen))).2
    have h6 := rflush_len (d.rwrite ((gen % 2 : Nat) : Int) (pad (superOf gen))).2
    omega
theorem ron40 (p : Nat) : ([rp p] ++ List.replicate (110 - [rp p].length) AV.undef) = st 110 [(0, rp p)] := rfl
theorem ropen_small {S : Obs} {p r : Nat} {h : Heap} {d : Dk} (D : Rsk S h p r d) (hn : d.lasts.length < 4) (k : Nat) : exFn C0 E0 (k + 1) false 40 [rp p] h = some (.tuple [.nilp, .nils, .int .i64 1], h) := by
  obtain ⟨x, vs, hx, -, -⟩ := D.var
  refine exFn_of e40 ?_
  have e1 : decide (((d.lasts.length : Nat) : Int) < 4) = true := decide_eq_true (by omega)
  rw [fnK, ron40, s40]
  simp -implicitDefEqProofs only [↓RK, RK, ↓RB, RB, decide_true, decide_false, STs, Nat.reduceBEq, ↓reduceIte, Nat.reduceLT, ↓R40, R40, rp_chk, rpf0, rld0 hx, lens, bin_lss, e1, results, List.map_cons, List.map_nil, st_getD]
theorem ropen_tail {S : Obs} {p r : Nat} {h : Heap} {f : Dk} (D : Rsk S h p r f) (up : Up S h) (hn : 2 ≤ f.lasts.length) (hl : f.loose.length < 5000) (hf : f.fuse < 2 ^ 63) (gen : Nat) (hg : gen ≤ 2147483647) (k : Nat) (hk : 16400 < k) :
    ∃ x h1 h2, exFn C0 E0 (k + 2) false 68 [rp p, .int .i64 gen] h = some (.tuple [.int .i64 (fromOf f.lasts.length gen : Nat), .int .i64 (toOf f.lasts.length gen : Nat)], h) ∧
      exFn C0 E0 (k + 2) false 28 [rp p, .int .i64 (fromOf f.lasts.length gen : Nat), .int .i64 (toOf f.lasts.length gen : Nat), .int .i64 gen] h = some (.tuple [x, .int .i64 (f.scan (fromOf f.lasts.length gen : Nat) (toOf f.lasts.length gen : Nat) gen).2], h1) ∧
      exFn C0 E0 (k + 2) false 29 [rp p, .int .i64 (f.scan (fromOf f.lasts.length gen : Nat) (toOf f.lasts.length gen : Nat) gen).2, .int .i64 (toOf f.lasts.length gen : Nat)] h1 =
        some (.int .i64 (f.rclean (f.scan (fromOf f.lasts.length gen : Nat) (toOf f.lasts.length gen : Nat) gen).2 (toOf f.lasts.length gen : Nat)).1, h2) ∧
      Rsk S h2 p r (f.rclean (f.scan (fromOf f.lasts.length gen : Nat) (toOf f.lasts.length gen : Nat) gen).2 (toOf f.lasts.length gen : Nat)).2 ∧ Keep S h h2 ∧
      ApR (From h.length) h2 x (f.scan (fromOf f.lasts.length gen : Nat) (toOf f.lasts.length gen : Nat) gen).1 := by
  have bk := rbounds_ok D hn gen (by omega) false (k + 1)
  obtain ⟨x, h1, s1, s2, k1⟩ := rscan_ok D (by omega) (fromOf f.lasts.length gen : Nat) (toOf f.lasts.length gen : Nat) gen (by omega) (by omega) (k + 1) (by omega)
  generalize f.scan (fromOf f.lasts.length gen : Nat) (toOf f.lasts.length gen : Nat) gen = sc at *
  have hk1 := k1.1
  have D1 : Rsk (fun i => S i ∧ ¬ (h.length ≤ i ∧ i < h1.length)) h1 p r f := (D.cap.fresh k1).mono fun i hi => ⟨hi.1, fun x => by have := hi.2; omega⟩
  have up1 : Up (fun i => S i ∧ ¬ (h.length ≤ i ∧ i < h1.length)) h1 := fun i hi => ⟨up i (by omega), fun x => by omega⟩
  obtain ⟨h2, c1, c2, c3⟩ := rclean_ok D1 up1 (by omega) hf sc.2 (toOf f.lasts.length gen : Nat) (k + 1) (by omega)
  refine ⟨x, h1, h2, bk, s1, c1, c2.mono fun i hi => hi.1, (k1.up up).trans (c3.mono fun i hi => hi.1), ?_⟩
  obtain ⟨vs, ha, hf⟩ := s2
  exact ⟨vs, ha.keep c3 fun i hi hs hx => hx.2 ⟨hs, hi⟩, hf⟩
theorem ropen_ok {S : Obs} {p r : Nat} {h : Heap} {d : Dk} (D : Rsk S h p r d) (up : Up S h) (hn : 4 ≤ d.lasts.length) (hl : d.loose.length ≤ 1100) (hf : d.fuse < 2 ^ 63) (k : Nat) (hk : 16500 < k) :
    ∃ h' l x, exFn C0 E0 (k + 1) false 40 [rp p] h = some (.tuple [l, x, .int .i64 d.ropen.1], h') ∧ Keep S h h' ∧ Rsk S h' p r d.ropen.2.1.d ∧
      (d.ropen.1 = 0 → ∃ q, l = rlp q ∧ h.length ≤ q ∧ q < h'.length ∧ Rlk S h' q p r d.ropen.2.1 ∧ ApR (fun i => h.length ≤ i ∧ i < h'.length ∧ i ≠ q) h' x d.ropen.2.2) ∧ (d.ropen.1 ≠ 0 → l = .nilp ∧ x = .nils) := by
  obtain ⟨k, rfl⟩ : ∃ j, k = j + 3 := ⟨k - 3, by omega⟩
  have hlen := D.few
  obtain ⟨x0, vs0, hx0, -, -⟩ := D.var
  have e1 : decide (((d.lasts.length : Nat) : Int) < 4) = false := decide_eq_false (by omega)
  obtain ⟨h0, g1, k0⟩ := ropen_step (by omega) (by omega) (k + 2) (by omega) 0 0 (by omega) (k + 2) h D
  obtain ⟨h1, g2, k01⟩ := ropen_step (by omega) (by omega) (k + 2) (by omega) 1 (max 0 (superGen ((d.now[0]?).getD []) 0)) (by omega) (k + 1) h0 (D.fresh k0)
  have hnw : max (max 0 (superGen ((d.now[0]?).getD []) 0)) (superGen ((d.now[1]?).getD []) 1) = newest d.now := by unfold newest; omega
  rw [hnw] at g2
  have k1 := k0.fresh k01 (Up.fresh h)
  have hng := newest_lt d.now
  have D1 := D.fresh k1
  have up1 := up.keep k1
  have kk1 := k1.up up
  have hk1 := k1.1
  have z0 : decide ((0 : Int) ≠ 0) = false := by decide
  have e2l : decide (((1 + 1 : Nat) : Int) < 2) = false := by decide
  have apr : ∀ {h2 h4 : Heap} {x : AV} {ls : List (List UInt8)} {o : Obj}, h.length ≤ h2.length → ApR (From h2.length) h4 x ls → ApR (fun i => h.length ≤ i ∧ i < (h4 ++ [o]).length ∧ i ≠ h4.length) (h4 ++ [o]) x ls := by
    intro h2 h4 x ls o hle ⟨vs, ha, hf⟩
    refine ⟨vs, ?_, hf⟩
    rcases ha with a | ⟨kk, hx, a | ⟨r, g, hk, hr, hg⟩⟩
    · exact .inl a
    · exact .inr ⟨kk, hx, .inl a⟩
    · have hlt := (List.getElem?_eq_some_iff.1 hg).1
      have hr' : h2.length ≤ r := hr
      exact .inr ⟨kk, hx, .inr ⟨r, g, hk, ⟨by omega, by simp; omega, by omega⟩, by rw [List.getElem?_append_left hlt]; exact hg⟩⟩
  -- the run up to the loop's end
  have pre : ∀ res, seqE (runK C0 (exFn C0 E0 (k + 3)) false 40 (k + 3) (.seq (.seq (.region 10 (O40 10) false) (.cond (.tmp 59) (.seq (.region 11 (O40 11) false) (.seq (.region 12 (O40 12) false) (.seq (.seq (.region 13 (O40 13) false) (.seq (.region 14 (O40 14) false) (.cond (.tmp 70) (.seq (.region 15 (O40 15) false) .ret) .skip))) (.seq (.seq (.region 16 (O40 16) false) (.seq (.region 17 (O40 17) false) (.cond (.tmp 76) (.seq (.region 18 (O40 18) false) .ret) .skip))) (.seq (.region 19 (O40 19) false) (.seq (.region 20 (O40 20) false) (.cond (.tmp 81) (.seq (.region 21 (O40 21) false) .ret) .skip))))))) .skip)) (.seq (.region 22 (O40 22) false) (.seq (.region 23 (O40 23) false) (.seq (.seq (.region 24 (O40 24) false) (.seq (.region 25 (O40 25) false) (.cond (.tmp 102) (.seq (.region 26 (O40 26) false) .ret) .skip))) (.seq (.region 27 (O40 27) false) .ret)))))
      (retK [2, 3, 4])) (retK [2, 3, 4]) .normal (st 110 [(0, rp p), (5, .int .i64 (newest d.now : Nat)), (6, .int .i64 ((1 + 1 : Nat) : Int)), (25, .bool false)]) h1 = some res → exFn C0 E0 (k + 3 + 1) false 40 [rp p] h = some res := by
    intro res hr
    refine exFn_of e40 ?_
    rw [fnK, ron40, s40]
    simp -implicitDefEqProofs only [↓RK, RK, ↓RB, RB, decide_true, decide_false, STs, Nat.reduceBEq, ↓reduceIte, Nat.reduceLT, r40_0, r40_1, r40_3, r40_4, rp_chk, rpf0, rld0 hx0, lens, bin_lss, e1]
    rw [show AV.int .i64 0 = .int .i64 ((0 : Nat) : Int) from rfl, g1, g2, loopK_succ]
    generalize loopK (_ : (List AV → Heap → Option (AV × Heap)) → List AV → Heap → Option (AV × Heap)) k = Lp
    rw [← hr]
    simp -implicitDefEqProofs only [B40_1, ↓RK, RK, ↓RB, RB, decide_true, decide_false, STs, Nat.reduceBEq, ↓reduceIte, Nat.reduceLT, r40_5, bin_lss, e2l]
  unfold Dk.ropen
  by_cases q : newest d.now = 0
  case neg =>
    have e2 : decide (((newest d.now : Nat) : Int) = 0) = false := decide_eq_false (by omega)
    simp only [if_neg q, ne_eq, not_true_eq_false, if_false]
    obtain ⟨x, h3, h4, bk, s1, c1, D4, k4, a4⟩ := ropen_tail D1 up1 (by omega) (by omega) hf (newest d.now) hng (k + 1) (by omega)
    generalize d.scan (fromOf d.lasts.length (newest d.now) : Nat) (toOf d.lasts.length (newest d.now) : Nat) (newest d.now : Nat) = sc at *
    generalize d.rclean sc.2 (toOf d.lasts.length (newest d.now) : Nat) = C at *
    obtain ⟨ce, cd⟩ := C
    simp only at *
    by_cases z : ce = 0
    · subst z
      simp only [not_true_eq_false, if_false]
      refine ⟨h4 ++ [rlv p (newest d.now) sc.2 false], rlp h4.length, x, pre _ ?_, (kk1.trans k4).trans (Keep.app h4 _ (up1.keep k4)), D4.fresh (Keep.app h4 _ (Up.fresh h4)),
        fun _ => ⟨h4.length, rfl, by have := k4.1; omega, by simp, Rlk.new D4 (up1.keep k4), apr hk1 a4⟩, fun h => h.elim⟩
      simp -implicitDefEqProofs only [↓RK, RK, ↓RB, RB, decide_true, decide_false, STs, Nat.reduceBEq, ↓reduceIte, Nat.reduceLT, ↓R40, R40, bin_eql, e2, bk, ext0, ext1, s1, c1, neq27, z0, bld76, box76, results, List.map_cons, List.map_nil, st_getD]
    · simp only [z, not_false_eq_true, if_true]
      refine ⟨h4, .nilp, .nils, pre _ ?_, kk1.trans k4, D4, fun h => h.elim, fun _ => ⟨rfl, rfl⟩⟩
      have z1 : decide (ce ≠ 0) = true := decide_eq_true z
      simp -implicitDefEqProofs only [↓RK, RK, ↓RB, RB, decide_true, decide_false, STs, Nat.reduceBEq, ↓reduceIte, Nat.reduceLT, ↓R40, R40, bin_eql, e2, bk, ext0, ext1, s1, c1, neq27, z1, results, List.map_cons, List.map_nil, st_getD]
  · have e2 : decide (((newest d.now : Nat) : Int) = 0) = true := decide_eq_true (by omega)
    simp only [if_pos q]
    unfold Dk.rformat
    have bk1 := rbounds_ok D1 (by omega) 1 (by omega) false (k + 2)
    rw [show ((1 : Nat) : Int) = 1 from rfl] at bk1
    obtain ⟨h2, c2, D2, k2⟩ := rclean_ok D1 up1 (by omega) hf (fromOf d.lasts.length 1 : Nat) (toOf d.lasts.length 1 : Nat) (k + 2) (by omega)
    have sz1 := rclean_sz d (fromOf d.lasts.length 1 : Nat) (toOf d.lasts.length 1 : Nat) hlen
    generalize d.rclean (fromOf d.lasts.length 1 : Nat) (toOf d.lasts.length 1 : Nat) = F at *
    obtain ⟨fe, fd⟩ := F
    simp only at *
    have up2 := up1.keep k2
    by_cases y : fe = 0
    case neg =>
      simp only [y, ne_eq, not_false_eq_true, if_true]
      refine ⟨h2, .nilp, .nils, pre _ ?_, kk1.trans k2, D2, fun h => h.elim, fun _ => ⟨rfl, rfl⟩⟩
      have z1 : decide (fe ≠ 0) = true := decide_eq_true y
      simp -implicitDefEqProofs only [↓RK, RK, ↓RB, RB, decide_true, decide_false, STs, Nat.reduceBEq, ↓reduceIte, Nat.reduceLT, ↓R40, R40, bin_eql, e2, bk1, ext0, ext1, c2, neq27, z1, results, List.map_cons, List.map_nil, st_getD]
    subst y
    simp only [ne_eq, not_true_eq_false, if_false]
    unfold Dk.rinstall
    obtain ⟨xs, h3, s1, s2, k3⟩ := rsuper_ok 1 h2 (k + 2) (by omega)
    rw [show ((1 : Nat) : Int) = 1 from rfl] at s1
    have D3 := D2.fresh k3
    have up3 := up2.keep k3
    rw [show ((1 % 2 : Nat) : Int) = 1 from rfl]
    obtain ⟨h4, w1, D4, k4⟩ := rwrite_ok D3 up3 1 (U := fun _ => False) (.inl s2) (fun _ _ h => h.elim) (by omega) (by omega) k
    have wl := rwrite_loose fd 1 (pad (superOf 1))
    have wf := rwrite_fuse fd 1 (pad (superOf 1))
    have wn := rwrite_len fd 1 (pad (superOf 1))
    generalize fd.rwrite 1 (pad (superOf 1)) = W at *
    obtain ⟨we, wd⟩ := W
    simp only at *
    have k34 := (k2.trans (k3.up up2)).trans k4
    have up4 := up3.keep k4
    by_cases y2 : we = 0
    case neg =>
      simp only [y2, ne_eq, not_false_eq_true, if_true]
      refine ⟨h4, .nilp, .nils, pre _ ?_, kk1.trans k34, D4, fun h => h.elim, fun _ => ⟨rfl, rfl⟩⟩
      have z1 : decide (we ≠ 0) = true := decide_eq_true y2
      simp -implicitDefEqProofs only [↓RK, RK, ↓RB, RB, decide_true, decide_false, STs, Nat.reduceBEq, ↓reduceIte, Nat.reduceLT, ↓R40, R40, bin_eql, e2, bk1, ext0, ext1, c2, neq27, z0, s1, w1, z1, results, List.map_cons, List.map_nil, st_getD]
    subst y2
    simp only [ne_eq, not_true_eq_false, if_false]
    obtain ⟨h5, f1, D5, k5⟩ := rflush_ok D4 (by omega) (by omega) false (k + 2) (by omega)
    have ff := rflush_fuse wd
    have fl := rflush_loose wd
    have fn := rflush_len wd
    generalize wd.rflush = G at *
    obtain ⟨ge, gd⟩ := G
    simp only at *
    have k35 := k34.trans k5
    have up5 := up4.keep k5
    by_cases y3 : ge = 0
    case neg =>
      simp only [y3, ne_eq, not_false_eq_true, if_true]
      refine ⟨h5, .nilp, .nils, pre _ ?_, kk1.trans k35, D5, fun h => h.elim, fun _ => ⟨rfl, rfl⟩⟩
      have z1 : decide (ge ≠ 0) = true := decide_eq_true y3
      simp -implicitDefEqProofs only [↓RK, RK, ↓RB, RB, decide_true, decide_false, STs, Nat.reduceBEq, ↓reduceIte, Nat.reduceLT, ↓R40, R40, bin_eql, e2, bk1, ext0, ext1, c2, neq27, z0, s1, w1, f1, z1, results, List.map_cons, List.map_nil, st_getD]
    subst y3
    simp only [ne_eq, not_true_eq_false, if_false]
    have hgl : gd.lasts.length = d.lasts.length := by omega
    obtain ⟨x, h6, h7, bk, t1, c7, D7, k7, a7⟩ := ropen_tail D5 up5 (by omega) (by omega) (by omega) 1 (by omega) (k + 1) (by omega)
    rw [hgl] at bk t1 c7 D7 a7
    rw [show ((1 : Nat) : Int) = 1 from rfl] at bk t1 c7 D7 a7
    generalize gd.scan (fromOf d.lasts.length 1 : Nat) (toOf d.lasts.length 1 : Nat) 1 = sc at *
    generalize gd.rclean sc.2 (toOf d.lasts.length 1 : Nat) = C at *
    obtain ⟨ce, cd⟩ := C
    simp only at *
    have k37 := k35.trans k7
    by_cases z : ce = 0
    · subst z
      simp only [not_true_eq_false, if_false]
      refine ⟨h7 ++ [rlv p 1 sc.2 false], rlp h7.length, x, pre _ ?_, (kk1.trans k37).trans (Keep.app h7 _ (up1.keep k37)), D7.fresh (Keep.app h7 _ (Up.fresh h7)),
        fun _ => ⟨h7.length, rfl, by have := k37.1; omega, by simp, Rlk.new D7 (up1.keep k37), apr (by have := k35.1; omega) a7⟩, fun h => h.elim⟩
      have bl := bld76 p 1 sc.2
      rw [show ((1 : Nat) : Int) = 1 from rfl] at bl
      have bx := box76 p 1 sc.2 h7
      rw [show ((1 : Nat) : Int) = 1 from rfl] at bx
      simp -implicitDefEqProofs only [↓RK, RK, ↓RB, RB, decide_true, decide_false, STs, Nat.reduceBEq, ↓reduceIte, Nat.reduceLT, ↓R40, R40, bin_eql, e2, bk1, bk, ext0, ext1, c2, neq27, z0, s1, w1, f1, t1, c7, bl, bx, results, List.map_cons, List.map_nil, st_getD]
    · simp only [z, not_false_eq_true, if_true]
      refine ⟨h7, .nilp, .nils, pre _ ?_, kk1.trans k37, D7, fun h => h.elim, fun _ => ⟨rfl, rfl⟩⟩
      have z1 : decide (ce ≠ 0) = true := decide_eq_true z
      simp -implicitDefEqProofs only [↓RK, RK, ↓RB, RB, decide_true, decide_false, STs, Nat.reduceBEq, ↓reduceIte, Nat.reduceLT, ↓R40, R40, bin_eql, e2, bk1, bk, ext0, ext1, c2, neq27, z0, s1, w1, f1, t1, c7, z1, results, List.map_cons, List.map_nil, st_getD]
end Go.Ax
