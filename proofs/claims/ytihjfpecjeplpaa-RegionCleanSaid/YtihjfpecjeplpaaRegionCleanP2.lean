/- What the functions that RegionClean reaches compute (part 2); each for the inputs that its theorem names. -/
import Derived.Test.YtihjfpecjeplpaaRegionCleanP1
set_option linter.unusedSimpArgs false
set_option linter.unusedVariables false

/- region.Lay: an entry is written. -/
namespace Go.Ax
open Go Go.Proofs

theorem burn_fuse (d : Dk) : d.burn.fuse ≤ d.fuse := by unfold Dk.burn; simp only; split <;> omega
theorem write_fuse (d : Dk) (a : Int) (b : List UInt8) : (d.write a b).2.fuse ≤ d.fuse := by
  unfold Dk.write
  split
  · exact Int.le_refl _
  · split
    · exact burn_fuse d
    · exact burn_fuse d
theorem write_loose (d : Dk) (a : Int) (b : List UInt8) : (d.write a b).2.loose.length ≤ d.loose.length + 1 := by
  unfold Dk.write
  split
  · simp
  · split
    · simp [Dk.burn]
    · simp [Dk.burn, Dk.add]
theorem write_len (d : Dk) (a : Int) (b : List UInt8) : (d.write a b).2.lasts.length = d.lasts.length := by
  unfold Dk.write
  split
  · rfl
  · split <;> rfl
theorem flush_fuse (d : Dk) : d.flush.2.fuse ≤ d.fuse := by
  unfold Dk.flush
  split
  · exact burn_fuse d
  · exact burn_fuse d
theorem flush_loose (d : Dk) : d.flush.2.loose.length ≤ d.loose.length := by
  unfold Dk.flush
  split
  · exact Nat.le_refl _
  · simp
theorem flush_len (d : Dk) : d.flush.2.lasts.length = d.lasts.length := by
  unfold Dk.flush
  split
  · rfl
  · exact land_length _ _

/-- The part of an entry that lies in its i-th sector. -/
def chunk (b : List UInt8) (i : Nat) : List UInt8 := (b.drop (64 * (i - 1))).take 64

def layLoop (at' : Int) (b : List UInt8) : Nat → Nat → Dk → Int × Dk
  | 0, _, d => (0, d)
  | m + 1, i, d => if (d.write (at' + i) (chunk b i)).1 = 0 then layLoop at' b m (i + 1) (d.write (at' + i) (chunk b i)).2 else d.write (at' + i) (chunk b i)

theorem layLoop_zero (at' : Int) (b : List UInt8) (i : Nat) (d : Dk) : layLoop at' b 0 i d = (0, d) := rfl
theorem layLoop_go {at' : Int} {b : List UInt8} {m i : Nat} {d : Dk} (h : (d.write (at' + i) (chunk b i)).1 = 0) : layLoop at' b (m + 1) i d = layLoop at' b m (i + 1) (d.write (at' + i) (chunk b i)).2 := if_pos h
theorem layLoop_no {at' : Int} {b : List UInt8} {m i : Nat} {d : Dk} (h : (d.write (at' + i) (chunk b i)).1 ≠ 0) : layLoop at' b (m + 1) i d = d.write (at' + i) (chunk b i) := if_neg h

theorem layLoop_loose (at' : Int) (b : List UInt8) : ∀ m i d, (layLoop at' b m i d).2.loose.length ≤ d.loose.length + m := by
  intro m
  induction m with
  | zero => intro i d; simp [layLoop]
  | succ m ih =>
    intro i d
    have := write_loose d (at' + i) (chunk b i)
    by_cases h : (d.write (at' + i) (chunk b i)).1 = 0
    · rw [layLoop_go h]
      have := ih (i + 1) (d.write (at' + i) (chunk b i)).2
      omega
    · rw [layLoop_no h]; omega
theorem layLoop_fuse (at' : Int) (b : List UInt8) : ∀ m i d, (layLoop at' b m i d).2.fuse ≤ d.fuse := by
  intro m
  induction m with
  | zero => intro i d; simp [layLoop]
  | succ m ih =>
    intro i d
    have := write_fuse d (at' + i) (chunk b i)
    by_cases h : (d.write (at' + i) (chunk b i)).1 = 0
    · rw [layLoop_go h]
      have := ih (i + 1) (d.write (at' + i) (chunk b i)).2
      omega
    · rw [layLoop_no h]; omega

theorem Bs.sub {x : AV} {l : List UInt8} (hx : Bs x l) (lo hi : Nat) (h1 : lo ≤ hi) (h2 : hi ≤ l.length) : ∃ y, aSlice tab 22 x (some (.int .i64 lo)) (some (.int .i64 hi)) none = some y ∧ Bs y ((l.take hi).drop lo) := by
  rcases hx with ⟨rfl, rfl⟩ | ⟨k, rfl⟩
  · obtain rfl : hi = 0 := by simpa using h2
    obtain rfl : lo = 0 := by omega
    exact ⟨.nils, by simp [aSlice, aBounds, aBound], .inl ⟨rfl, by simp⟩⟩
  · refine ⟨.vsl 5 (((l.take hi).drop lo).map U8) (cutTok l.length hi none k), ?_, .inr ⟨_, rfl⟩⟩
    simp [aSlice, aBounds, aBound, h1, h2]

theorem chunk_eq (b : List UInt8) (i : Nat) (hi : 1 ≤ i) : (b.take (min (64 * i) b.length)).drop (64 * (i - 1)) = chunk b i := by
  unfold chunk
  rw [List.drop_take]
  rcases Nat.le_total (64 * i) b.length with h | h
  · rw [Nat.min_eq_left h, show 64 * i - 64 * (i - 1) = 64 by omega]
  · rw [Nat.min_eq_right h, List.take_of_length_le (by simp), List.take_of_length_le (by simp; omega)]

theorem lay_loop {S : Obs} {p r : Nat} {x : AV} {b : List UInt8} (hx : Bs x b) (a nn : Nat) (x3 : AV) (N : Nat) (ha : a + nn ≤ 1024) (hnn : 64 * (nn - 1) < b.length + 64) :
    ∀ (m i n : Nat) (d : Dk) (h : Heap), i + m = nn → 1 ≤ i → m < n → Up S h → Dsk S h p r d → d.loose.length + m < 2 ^ 30 → d.fuse < 2 ^ 62 →
    ∃ h', (∀ K : Ex → List AV → Heap → Option (AV × Heap), loopK (fun next => runK C0 (exFn C0 E0 (N + 3)) false 14 (N + 3) B14_1 (seqE next K)) n (st 96 [(0, dp p), (1, .int .i64 a), (3, x3), (4, x), (12, .int .i64 nn), (13, .int .i64 i)]) h =
      if (layLoop a b m i d).1 = 0 then K (.exit 0) (st 96 [(0, dp p), (1, .int .i64 a), (3, x3), (4, x), (12, .int .i64 nn), (13, .int .i64 nn), (52, .bool false)]) h'
      else K .ret (st 96 [(10, .int .i64 0), (11, .int .i64 (layLoop a b m i d).1)]) h') ∧
      Dsk S h' p r (layLoop a b m i d).2 ∧ Keep S h h' := by
  intro m
  induction m with
  | zero =>
    intro i n d h hi h1 hn up D hl hf
    obtain ⟨n, rfl⟩ : ∃ j, n = j + 1 := ⟨n - 1, by omega⟩
    obtain rfl : i = nn := by omega
    rw [layLoop_zero]
    refine ⟨h, fun K => ?_, D, Keep.refl _ _⟩
    rw [if_pos rfl, loopK_succ]
    generalize loopK (_ : (List AV → Heap → Option (AV × Heap)) → List AV → Heap → Option (AV × Heap)) n = Lp
    have e : decide (((i : Nat) : Int) < (i : Nat)) = false := decide_eq_false (by omega)
    simp -implicitDefEqProofs only [B14_1, ↓runK_seq, runK_seq, ↓runK_cond, runK_cond, ↓runK_block, runK_block, ↓runK_loop, runK_loop, ↓runK_skip, runK_skip, ↓runK_ret, runK_ret, ↓runK_exit, runK_exit, ↓seqE_n, seqE_n, ↓seqE_e, seqE_e, ↓seqE_r, seqE_r, ↓blkE_n, blkE_n, ↓blkE_e, blkE_e, ↓blkE_r, blkE_r, ↓retK_n, retK_n, ↓retK_r, retK_r, ↓aCall_fn, aCall_fn, ↓bnd_s, bnd_s, ↓bnd2_s, bnd2_s, ↓onB_t, onB_t, ↓onB_f, onB_f, ↓onT_t, onT_t, ↓aPick_t, aPick_t, ↓aPick_f, aPick_f, decide_true, decide_false, st_tmp, results1, results2, List.lookup_cons, List.lookup_nil, Nat.reduceBEq, Bool.false_eq_true, ↓reduceIte, BEq.rfl, Nat.reduceLT, Option.getD_some, Option.getD_none, ↓r14_0, r14_0, ↓r14_1, r14_1, J14_1_0, J14_1_1, J14_1_2, J14_1_3, J14_1_4, J14_1_5, J14_1_6, ↓r14_2, r14_2, ↓r14_3, r14_3, ↓r14_4, r14_4, J14_4_0, J14_4_1, J14_4_2, ↓r14_5, r14_5, ↓r14_6, r14_6, ↓r14_7, r14_7, ↓r14_8, r14_8, ↓r14_9, r14_9, ↓r14_10, r14_10, ↓r14_11, r14_11, ↓r14_12, r14_12, ↓r14_13, r14_13, ↓r14_14, r14_14, ↓r14_15, r14_15, ↓r14_16, r14_16, ↓r14_17, r14_17, ↓r14_18, r14_18, ↓r14_19, r14_19, ↓r14_20, r14_20, ↓r14_21, r14_21, ↓r14_22, r14_22, bin_lss, e]
  | succ m ih =>
    intro i n d h hi h1 hn up D hl hf
    obtain ⟨n, rfl⟩ : ∃ j, n = j + 1 := ⟨n - 1, by omega⟩
    have e : decide (((i : Nat) : Int) < (nn : Nat)) = true := decide_eq_true (by omega)
    have w1 : IntKind.i64.wrap ((i : Int) - 1) = ((i - 1 : Nat) : Int) := by rw [wrap_i64] <;> omega
    have w2 : IntKind.i64.wrap (((i - 1 : Nat) : Int) * 64) = ((64 * (i - 1) : Nat) : Int) := by rw [wrap_i64] <;> omega
    have w3 : IntKind.i64.wrap ((i : Int) * 64) = ((64 * i : Nat) : Int) := by rw [wrap_i64] <;> omega
    have w4 : IntKind.i64.wrap ((a : Int) + (i : Int)) = (a : Int) + i := by rw [wrap_i64] <;> omega
    have w5 : IntKind.i64.wrap ((i : Int) + 1) = ((i + 1 : Nat) : Int) := by rw [wrap_i64] <;> omega
    have mn : (if ((b.length : Nat) : Int) < ((64 * i : Nat) : Int) then ((b.length : Nat) : Int) else ((64 * i : Nat) : Int)) = ((min (64 * i) b.length : Nat) : Int) := by split <;> omega
    obtain ⟨y, sy, by'⟩ := hx.sub (64 * (i - 1)) (min (64 * i) b.length) (by omega) (by omega)
    rw [chunk_eq b i h1] at by'
    obtain ⟨h2, q1, D2, k2⟩ := write_ok D up ((a : Int) + i) (U := fun _ => False) (.inl by') (fun _ _ h => h.elim) (by omega) hf N
    have hwl := write_loose d ((a : Int) + i) (chunk b i)
    have hwf := write_fuse d ((a : Int) + i) (chunk b i)
    by_cases hw : (d.write ((a : Int) + i) (chunk b i)).1 = 0
    · obtain ⟨h3, g1, g2, g3⟩ := ih (i + 1) n _ h2 (by omega) (by omega) (by omega) (up.keep k2) D2 (by omega) (by omega)
      rw [layLoop_go hw]
      refine ⟨h3, fun K => ?_, g2, k2.trans g3⟩
      rw [loopK_succ, ← g1 K]
      generalize loopK (_ : (List AV → Heap → Option (AV × Heap)) → List AV → Heap → Option (AV × Heap)) n = Lp
      rw [hw] at q1
      have c0 : decide ((0 : Int) ≠ 0) = false := by decide
      simp -implicitDefEqProofs only [B14_1, ↓runK_seq, runK_seq, ↓runK_cond, runK_cond, ↓runK_block, runK_block, ↓runK_loop, runK_loop, ↓runK_skip, runK_skip, ↓runK_ret, runK_ret, ↓runK_exit, runK_exit, ↓seqE_n, seqE_n, ↓seqE_e, seqE_e, ↓seqE_r, seqE_r, ↓blkE_n, blkE_n, ↓blkE_e, blkE_e, ↓blkE_r, blkE_r, ↓retK_n, retK_n, ↓retK_r, retK_r, ↓aCall_fn, aCall_fn, ↓bnd_s, bnd_s, ↓bnd2_s, bnd2_s, ↓onB_t, onB_t, ↓onB_f, onB_f, ↓onT_t, onT_t, ↓aPick_t, aPick_t, ↓aPick_f, aPick_f, decide_true, decide_false, st_tmp, results1, results2, List.lookup_cons, List.lookup_nil, Nat.reduceBEq, Bool.false_eq_true, ↓reduceIte, BEq.rfl, Nat.reduceLT, Option.getD_some, Option.getD_none, ↓r14_0, r14_0, ↓r14_1, r14_1, J14_1_0, J14_1_1, J14_1_2, J14_1_3, J14_1_4, J14_1_5, J14_1_6, ↓r14_2, r14_2, ↓r14_3, r14_3, ↓r14_4, r14_4, J14_4_0, J14_4_1, J14_4_2, ↓r14_5, r14_5, ↓r14_6, r14_6, ↓r14_7, r14_7, ↓r14_8, r14_8, ↓r14_9, r14_9, ↓r14_10, r14_10, ↓r14_11, r14_11, ↓r14_12, r14_12, ↓r14_13, r14_13, ↓r14_14, r14_14, ↓r14_15, r14_15, ↓r14_16, r14_16, ↓r14_17, r14_17, ↓r14_18, r14_18, ↓r14_19, r14_19, ↓r14_20, r14_20, ↓r14_21, r14_21, ↓r14_22, r14_22, bin_lss, e, bin_sub, w1, bin_mul, w2, w3, hx.len, min2_i64, mn, sy, bin_add, w4, q1, neq27, c0, w5]
    · rw [layLoop_no hw]
      refine ⟨h2, fun K => ?_, D2, k2⟩
      rw [if_neg hw, loopK_succ]
      generalize loopK (_ : (List AV → Heap → Option (AV × Heap)) → List AV → Heap → Option (AV × Heap)) n = Lp
      have c0 : decide ((d.write ((a : Int) + i) (chunk b i)).1 ≠ 0) = true := decide_eq_true hw
      simp -implicitDefEqProofs only [B14_1, ↓runK_seq, runK_seq, ↓runK_cond, runK_cond, ↓runK_block, runK_block, ↓runK_loop, runK_loop, ↓runK_skip, runK_skip, ↓runK_ret, runK_ret, ↓runK_exit, runK_exit, ↓seqE_n, seqE_n, ↓seqE_e, seqE_e, ↓seqE_r, seqE_r, ↓blkE_n, blkE_n, ↓blkE_e, blkE_e, ↓blkE_r, blkE_r, ↓retK_n, retK_n, ↓retK_r, retK_r, ↓aCall_fn, aCall_fn, ↓bnd_s, bnd_s, ↓bnd2_s, bnd2_s, ↓onB_t, onB_t, ↓onB_f, onB_f, ↓onT_t, onT_t, ↓aPick_t, aPick_t, ↓aPick_f, aPick_f, decide_true, decide_false, st_tmp, results1, results2, List.lookup_cons, List.lookup_nil, Nat.reduceBEq, Bool.false_eq_true, ↓reduceIte, BEq.rfl, Nat.reduceLT, Option.getD_some, Option.getD_none, ↓r14_0, r14_0, ↓r14_1, r14_1, J14_1_0, J14_1_1, J14_1_2, J14_1_3, J14_1_4, J14_1_5, J14_1_6, ↓r14_2, r14_2, ↓r14_3, r14_3, ↓r14_4, r14_4, J14_4_0, J14_4_1, J14_4_2, ↓r14_5, r14_5, ↓r14_6, r14_6, ↓r14_7, r14_7, ↓r14_8, r14_8, ↓r14_9, r14_9, ↓r14_10, r14_10, ↓r14_11, r14_11, ↓r14_12, r14_12, ↓r14_13, r14_13, ↓r14_14, r14_14, ↓r14_15, r14_15, ↓r14_16, r14_16, ↓r14_17, r14_17, ↓r14_18, r14_18, ↓r14_19, r14_19, ↓r14_20, r14_20, ↓r14_21, r14_21, ↓r14_22, r14_22, bin_lss, e, bin_sub, w1, bin_mul, w2, w3, hx.len, min2_i64, mn, sy, bin_add, w4, q1, neq27, c0]

/-- Lay's answer, and the disk then. -/
def Dk.lay (d : Dk) (at' e gen : Int) (b : List UInt8) : (Int × Int) × Dk :=
  if 8192 < b.length ∨ gen < 0 ∨ 2147483647 < gen ∨ at' < 0 then ((0, 1), d)
  else if e < at' ∨ min e d.lasts.length - at' < sizeOf b.length then ((0, 3), d)
  else
    let l := layLoop at' b ((sizeOf b.length).toNat - 1) 1 d
    if l.1 ≠ 0 then ((0, l.1), l.2)
    else if l.2.flush.1 ≠ 0 then ((0, l.2.flush.1), l.2.flush.2)
    else
      let w := l.2.flush.2.write at' (head16 (BitVec.ofInt 32 gen) b)
      if w.1 ≠ 0 then ((0, w.1), w.2)
      else if w.2.flush.1 ≠ 0 then ((0, w.2.flush.1), w.2.flush.2)
      else ((at' + sizeOf b.length, 0), w.2.flush.2)

theorem lay_arg {d : Dk} {at' e gen : Int} {b : List UInt8} (h : 8192 < b.length ∨ gen < 0 ∨ 2147483647 < gen ∨ at' < 0) : d.lay at' e gen b = ((0, 1), d) := if_pos h
theorem lay_full {d : Dk} {at' e gen : Int} {b : List UInt8} (h : ¬ (8192 < b.length ∨ gen < 0 ∨ 2147483647 < gen ∨ at' < 0)) (h2 : e < at' ∨ min e d.lasts.length - at' < sizeOf b.length) : d.lay at' e gen b = ((0, 3), d) := by
  unfold Dk.lay; rw [if_neg h, if_pos h2]
theorem lay_go {d : Dk} {at' e gen : Int} {b : List UInt8} (h : ¬ (8192 < b.length ∨ gen < 0 ∨ 2147483647 < gen ∨ at' < 0)) (h2 : ¬ (e < at' ∨ min e d.lasts.length - at' < sizeOf b.length)) {l : Int × Dk} (hl : layLoop at' b ((sizeOf b.length).toNat - 1) 1 d = l) :
    d.lay at' e gen b = if l.1 ≠ 0 then ((0, l.1), l.2)
    else if l.2.flush.1 ≠ 0 then ((0, l.2.flush.1), l.2.flush.2)
    else if (l.2.flush.2.write at' (head16 (BitVec.ofInt 32 gen) b)).1 ≠ 0 then ((0, (l.2.flush.2.write at' (head16 (BitVec.ofInt 32 gen) b)).1), (l.2.flush.2.write at' (head16 (BitVec.ofInt 32 gen) b)).2)
    else if (l.2.flush.2.write at' (head16 (BitVec.ofInt 32 gen) b)).2.flush.1 ≠ 0 then ((0, (l.2.flush.2.write at' (head16 (BitVec.ofInt 32 gen) b)).2.flush.1), (l.2.flush.2.write at' (head16 (BitVec.ofInt 32 gen) b)).2.flush.2)
    else ((at' + sizeOf b.length, 0), (l.2.flush.2.write at' (head16 (BitVec.ofInt 32 gen) b)).2.flush.2) := by
  subst hl; unfold Dk.lay; rw [if_neg h, if_neg h2]

theorem ln0 (p : Nat) (at' e gen : Int) (x : AV) : ([dp p, .int .i64 at', .int .i64 e, .int .i64 gen, x] ++ List.replicate (96 - [dp p, .int .i64 at', .int .i64 e, .int .i64 gen, x].length) AV.undef) =
    st 96 [(0, dp p), (1, .int .i64 at'), (2, .int .i64 e), (3, .int .i64 gen), (4, x)] := rfl

theorem lay_ok {S : Obs} {p r : Nat} {h : Heap} {d : Dk} (D : Dsk S h p r d) (up : Up S h) (hl : d.loose.length < 2 ^ 29) (hf : d.fuse < 2 ^ 62) (at' e gen : Int) (hat : at' < 2 ^ 63) {x : AV} {b : List UInt8} (hx : Bs x b)
    (hbl : b.length < 2 ^ 61) (k : Nat) (hk : d.loose.length + 9000 < k) :
    ∃ h', exFn C0 E0 (k + 1) false 14 [dp p, .int .i64 at', .int .i64 e, .int .i64 gen, x] h = some (.tuple [.int .i64 (d.lay at' e gen b).1.1, .int .i64 (d.lay at' e gen b).1.2], h') ∧ Dsk S h' p r (d.lay at' e gen b).2 ∧ Keep S h h' := by
  obtain ⟨k, rfl⟩ : ∃ j, k = j + 9 := ⟨k - 9, by omega⟩
  have hfew := D.few
  by_cases q1 : 8192 < b.length
  · have e1 : decide ((8192 : Int) < (b.length : Nat)) = true := decide_eq_true (by omega)
    rw [lay_arg (.inl q1)]
    refine ⟨h, exFn_of e14 ?_, D, Keep.refl _ _⟩
    rw [fnK, ln0, s14]
    simp -implicitDefEqProofs only [↓runK_seq, runK_seq, ↓runK_cond, runK_cond, ↓runK_block, runK_block, ↓runK_loop, runK_loop, ↓runK_skip, runK_skip, ↓runK_ret, runK_ret, ↓runK_exit, runK_exit, ↓seqE_n, seqE_n, ↓seqE_e, seqE_e, ↓seqE_r, seqE_r, ↓blkE_n, blkE_n, ↓blkE_e, blkE_e, ↓blkE_r, blkE_r, ↓retK_n, retK_n, ↓retK_r, retK_r, ↓aCall_fn, aCall_fn, ↓bnd_s, bnd_s, ↓bnd2_s, bnd2_s, ↓onB_t, onB_t, ↓onB_f, onB_f, ↓onT_t, onT_t, ↓aPick_t, aPick_t, ↓aPick_f, aPick_f, decide_true, decide_false, st_tmp, results1, results2, List.lookup_cons, List.lookup_nil, Nat.reduceBEq, Bool.false_eq_true, ↓reduceIte, BEq.rfl, Nat.reduceLT, Option.getD_some, Option.getD_none, ↓r14_0, r14_0, ↓r14_1, r14_1, J14_1_0, J14_1_1, J14_1_2, J14_1_3, J14_1_4, J14_1_5, J14_1_6, ↓r14_2, r14_2, ↓r14_3, r14_3, ↓r14_4, r14_4, J14_4_0, J14_4_1, J14_4_2, ↓r14_5, r14_5, ↓r14_6, r14_6, ↓r14_7, r14_7, ↓r14_8, r14_8, ↓r14_9, r14_9, ↓r14_10, r14_10, ↓r14_11, r14_11, ↓r14_12, r14_12, ↓r14_13, r14_13, ↓r14_14, r14_14, ↓r14_15, r14_15, ↓r14_16, r14_16, ↓r14_17, r14_17, ↓r14_18, r14_18, ↓r14_19, r14_19, ↓r14_20, r14_20, ↓r14_21, r14_21, ↓r14_22, r14_22, hx.len, bin_gtr, e1]
  have e1 : decide ((8192 : Int) < (b.length : Nat)) = false := decide_eq_false (by omega)
  by_cases q2 : gen < 0
  · have e2 : decide (gen < 0) = true := decide_eq_true q2
    rw [lay_arg (.inr (.inl q2))]
    refine ⟨h, exFn_of e14 ?_, D, Keep.refl _ _⟩
    rw [fnK, ln0, s14]
    simp -implicitDefEqProofs only [↓runK_seq, runK_seq, ↓runK_cond, runK_cond, ↓runK_block, runK_block, ↓runK_loop, runK_loop, ↓runK_skip, runK_skip, ↓runK_ret, runK_ret, ↓runK_exit, runK_exit, ↓seqE_n, seqE_n, ↓seqE_e, seqE_e, ↓seqE_r, seqE_r, ↓blkE_n, blkE_n, ↓blkE_e, blkE_e, ↓blkE_r, blkE_r, ↓retK_n, retK_n, ↓retK_r, retK_r, ↓aCall_fn, aCall_fn, ↓bnd_s, bnd_s, ↓bnd2_s, bnd2_s, ↓onB_t, onB_t, ↓onB_f, onB_f, ↓onT_t, onT_t, ↓aPick_t, aPick_t, ↓aPick_f, aPick_f, decide_true, decide_false, st_tmp, results1, results2, List.lookup_cons, List.lookup_nil, Nat.reduceBEq, Bool.false_eq_true, ↓reduceIte, BEq.rfl, Nat.reduceLT, Option.getD_some, Option.getD_none, ↓r14_0, r14_0, ↓r14_1, r14_1, J14_1_0, J14_1_1, J14_1_2, J14_1_3, J14_1_4, J14_1_5, J14_1_6, ↓r14_2, r14_2, ↓r14_3, r14_3, ↓r14_4, r14_4, J14_4_0, J14_4_1, J14_4_2, ↓r14_5, r14_5, ↓r14_6, r14_6, ↓r14_7, r14_7, ↓r14_8, r14_8, ↓r14_9, r14_9, ↓r14_10, r14_10, ↓r14_11, r14_11, ↓r14_12, r14_12, ↓r14_13, r14_13, ↓r14_14, r14_14, ↓r14_15, r14_15, ↓r14_16, r14_16, ↓r14_17, r14_17, ↓r14_18, r14_18, ↓r14_19, r14_19, ↓r14_20, r14_20, ↓r14_21, r14_21, ↓r14_22, r14_22, hx.len, bin_gtr, e1, bin_lss, e2]
  have e2 : decide (gen < 0) = false := decide_eq_false q2
  by_cases q3 : 2147483647 < gen
  · have e3 : decide (2147483647 < gen) = true := decide_eq_true q3
    rw [lay_arg (.inr (.inr (.inl q3)))]
    refine ⟨h, exFn_of e14 ?_, D, Keep.refl _ _⟩
    rw [fnK, ln0, s14]
    simp -implicitDefEqProofs only [↓runK_seq, runK_seq, ↓runK_cond, runK_cond, ↓runK_block, runK_block, ↓runK_loop, runK_loop, ↓runK_skip, runK_skip, ↓runK_ret, runK_ret, ↓runK_exit, runK_exit, ↓seqE_n, seqE_n, ↓seqE_e, seqE_e, ↓seqE_r, seqE_r, ↓blkE_n, blkE_n, ↓blkE_e, blkE_e, ↓blkE_r, blkE_r, ↓retK_n, retK_n, ↓retK_r, retK_r, ↓aCall_fn, aCall_fn, ↓bnd_s, bnd_s, ↓bnd2_s, bnd2_s, ↓onB_t, onB_t, ↓onB_f, onB_f, ↓onT_t, onT_t, ↓aPick_t, aPick_t, ↓aPick_f, aPick_f, decide_true, decide_false, st_tmp, results1, results2, List.lookup_cons, List.lookup_nil, Nat.reduceBEq, Bool.false_eq_true, ↓reduceIte, BEq.rfl, Nat.reduceLT, Option.getD_some, Option.getD_none, ↓r14_0, r14_0, ↓r14_1, r14_1, J14_1_0, J14_1_1, J14_1_2, J14_1_3, J14_1_4, J14_1_5, J14_1_6, ↓r14_2, r14_2, ↓r14_3, r14_3, ↓r14_4, r14_4, J14_4_0, J14_4_1, J14_4_2, ↓r14_5, r14_5, ↓r14_6, r14_6, ↓r14_7, r14_7, ↓r14_8, r14_8, ↓r14_9, r14_9, ↓r14_10, r14_10, ↓r14_11, r14_11, ↓r14_12, r14_12, ↓r14_13, r14_13, ↓r14_14, r14_14, ↓r14_15, r14_15, ↓r14_16, r14_16, ↓r14_17, r14_17, ↓r14_18, r14_18, ↓r14_19, r14_19, ↓r14_20, r14_20, ↓r14_21, r14_21, ↓r14_22, r14_22, hx.len, bin_gtr, e1, bin_lss, e2, e3]
  have e3 : decide (2147483647 < gen) = false := decide_eq_false q3
  by_cases q4 : at' < 0
  · have e4 : decide (at' < 0) = true := decide_eq_true q4
    rw [lay_arg (.inr (.inr (.inr q4)))]
    refine ⟨h, exFn_of e14 ?_, D, Keep.refl _ _⟩
    rw [fnK, ln0, s14]
    simp -implicitDefEqProofs only [↓runK_seq, runK_seq, ↓runK_cond, runK_cond, ↓runK_block, runK_block, ↓runK_loop, runK_loop, ↓runK_skip, runK_skip, ↓runK_ret, runK_ret, ↓runK_exit, runK_exit, ↓seqE_n, seqE_n, ↓seqE_e, seqE_e, ↓seqE_r, seqE_r, ↓blkE_n, blkE_n, ↓blkE_e, blkE_e, ↓blkE_r, blkE_r, ↓retK_n, retK_n, ↓retK_r, retK_r, ↓aCall_fn, aCall_fn, ↓bnd_s, bnd_s, ↓bnd2_s, bnd2_s, ↓onB_t, onB_t, ↓onB_f, onB_f, ↓onT_t, onT_t, ↓aPick_t, aPick_t, ↓aPick_f, aPick_f, decide_true, decide_false, st_tmp, results1, results2, List.lookup_cons, List.lookup_nil, Nat.reduceBEq, Bool.false_eq_true, ↓reduceIte, BEq.rfl, Nat.reduceLT, Option.getD_some, Option.getD_none, ↓r14_0, r14_0, ↓r14_1, r14_1, J14_1_0, J14_1_1, J14_1_2, J14_1_3, J14_1_4, J14_1_5, J14_1_6, ↓r14_2, r14_2, ↓r14_3, r14_3, ↓r14_4, r14_4, J14_4_0, J14_4_1, J14_4_2, ↓r14_5, r14_5, ↓r14_6, r14_6, ↓r14_7, r14_7, ↓r14_8, r14_8, ↓r14_9, r14_9, ↓r14_10, r14_10, ↓r14_11, r14_11, ↓r14_12, r14_12, ↓r14_13, r14_13, ↓r14_14, r14_14, ↓r14_15, r14_15, ↓r14_16, r14_16, ↓r14_17, r14_17, ↓r14_18, r14_18, ↓r14_19, r14_19, ↓r14_20, r14_20, ↓r14_21, r14_21, ↓r14_22, r14_22, hx.len, bin_gtr, e1, bin_lss, e2, e3, e4]
  have e4 : decide (at' < 0) = false := decide_eq_false q4
  have ha : ¬ (8192 < b.length ∨ gen < 0 ∨ 2147483647 < gen ∨ at' < 0) := fun h => h.elim q1 fun h => h.elim q2 fun h => h.elim q3 q4
  have sk := size_ok (b.length : Int) (by omega) false h (k + 8)
  by_cases q5 : e < at'
  · have e5 : decide (e < at') = true := decide_eq_true q5
    rw [lay_full ha (.inl q5)]
    refine ⟨h, exFn_of e14 ?_, D, Keep.refl _ _⟩
    rw [fnK, ln0, s14]
    simp -implicitDefEqProofs only [↓runK_seq, runK_seq, ↓runK_cond, runK_cond, ↓runK_block, runK_block, ↓runK_loop, runK_loop, ↓runK_skip, runK_skip, ↓runK_ret, runK_ret, ↓runK_exit, runK_exit, ↓seqE_n, seqE_n, ↓seqE_e, seqE_e, ↓seqE_r, seqE_r, ↓blkE_n, blkE_n, ↓blkE_e, blkE_e, ↓blkE_r, blkE_r, ↓retK_n, retK_n, ↓retK_r, retK_r, ↓aCall_fn, aCall_fn, ↓bnd_s, bnd_s, ↓bnd2_s, bnd2_s, ↓onB_t, onB_t, ↓onB_f, onB_f, ↓onT_t, onT_t, ↓aPick_t, aPick_t, ↓aPick_f, aPick_f, decide_true, decide_false, st_tmp, results1, results2, List.lookup_cons, List.lookup_nil, Nat.reduceBEq, Bool.false_eq_true, ↓reduceIte, BEq.rfl, Nat.reduceLT, Option.getD_some, Option.getD_none, ↓r14_0, r14_0, ↓r14_1, r14_1, J14_1_0, J14_1_1, J14_1_2, J14_1_3, J14_1_4, J14_1_5, J14_1_6, ↓r14_2, r14_2, ↓r14_3, r14_3, ↓r14_4, r14_4, J14_4_0, J14_4_1, J14_4_2, ↓r14_5, r14_5, ↓r14_6, r14_6, ↓r14_7, r14_7, ↓r14_8, r14_8, ↓r14_9, r14_9, ↓r14_10, r14_10, ↓r14_11, r14_11, ↓r14_12, r14_12, ↓r14_13, r14_13, ↓r14_14, r14_14, ↓r14_15, r14_15, ↓r14_16, r14_16, ↓r14_17, r14_17, ↓r14_18, r14_18, ↓r14_19, r14_19, ↓r14_20, r14_20, ↓r14_21, r14_21, ↓r14_22, r14_22, hx.len, bin_gtr, e1, bin_lss, e2, e3, e4, sk, e5]
  have e5 : decide (e < at') = false := decide_eq_false q5
  have mn : (if ((d.lasts.length : Nat) : Int) < e then ((d.lasts.length : Nat) : Int) else e) = min e d.lasts.length := by split <;> omega
  have ws : IntKind.i64.wrap (min e d.lasts.length - at') = min e d.lasts.length - at' := by rw [wrap_i64] <;> omega
  have lk := len_ok D false (k + 8)
  by_cases q6 : min e d.lasts.length - at' < sizeOf b.length
  · have e6 : decide (min e d.lasts.length - at' < sizeOf b.length) = true := decide_eq_true q6
    rw [lay_full ha (.inr q6)]
    refine ⟨h, exFn_of e14 ?_, D, Keep.refl _ _⟩
    rw [fnK, ln0, s14]
    simp -implicitDefEqProofs only [↓runK_seq, runK_seq, ↓runK_cond, runK_cond, ↓runK_block, runK_block, ↓runK_loop, runK_loop, ↓runK_skip, runK_skip, ↓runK_ret, runK_ret, ↓runK_exit, runK_exit, ↓seqE_n, seqE_n, ↓seqE_e, seqE_e, ↓seqE_r, seqE_r, ↓blkE_n, blkE_n, ↓blkE_e, blkE_e, ↓blkE_r, blkE_r, ↓retK_n, retK_n, ↓retK_r, retK_r, ↓aCall_fn, aCall_fn, ↓bnd_s, bnd_s, ↓bnd2_s, bnd2_s, ↓onB_t, onB_t, ↓onB_f, onB_f, ↓onT_t, onT_t, ↓aPick_t, aPick_t, ↓aPick_f, aPick_f, decide_true, decide_false, st_tmp, results1, results2, List.lookup_cons, List.lookup_nil, Nat.reduceBEq, Bool.false_eq_true, ↓reduceIte, BEq.rfl, Nat.reduceLT, Option.getD_some, Option.getD_none, ↓r14_0, r14_0, ↓r14_1, r14_1, J14_1_0, J14_1_1, J14_1_2, J14_1_3, J14_1_4, J14_1_5, J14_1_6, ↓r14_2, r14_2, ↓r14_3, r14_3, ↓r14_4, r14_4, J14_4_0, J14_4_1, J14_4_2, ↓r14_5, r14_5, ↓r14_6, r14_6, ↓r14_7, r14_7, ↓r14_8, r14_8, ↓r14_9, r14_9, ↓r14_10, r14_10, ↓r14_11, r14_11, ↓r14_12, r14_12, ↓r14_13, r14_13, ↓r14_14, r14_14, ↓r14_15, r14_15, ↓r14_16, r14_16, ↓r14_17, r14_17, ↓r14_18, r14_18, ↓r14_19, r14_19, ↓r14_20, r14_20, ↓r14_21, r14_21, ↓r14_22, r14_22, hx.len, bin_gtr, e1, bin_lss, e2, e3, e4, sk, e5, lk, min2_i64, mn, bin_sub, ws, e6]
  have e6 : decide (min e d.lasts.length - at' < sizeOf b.length) = false := decide_eq_false q6
  obtain ⟨nn, hnn⟩ : ∃ nn : Nat, sizeOf b.length = nn := ⟨(sizeOf b.length).toNat, by unfold sizeOf; omega⟩
  have hnn1 : (nn : Int) = 1 + ((b.length : Int) + 63) / 64 := by rw [← hnn]; unfold sizeOf; omega
  obtain ⟨a, rfl⟩ : ∃ a : Nat, at' = a := ⟨at'.toNat, by omega⟩
  have hl1 := layLoop_loose (a : Int) b (nn - 1) 1 d
  have hl2 := layLoop_fuse (a : Int) b (nn - 1) 1 d
  obtain ⟨h1, f1, f2, f3⟩ := lay_loop (S := S) (p := p) (r := r) hx a nn (.int .i64 gen) (k + 6) (by omega) (by omega) (nn - 1) 1 (k + 9) d h (by omega) (by omega) (by omega) up D (by omega) hf
  rw [show ((1 : Nat) : Int) = 1 from rfl] at f1
  rw [lay_go ha (fun h => h.elim q5 q6) (l := layLoop (a : Int) b (nn - 1) 1 d) (by rw [hnn]; rfl)]
  rw [hnn] at sk e6
  generalize hL : layLoop (a : Int) b (nn - 1) 1 d = L at *
  obtain ⟨le, ld⟩ := L
  simp only at f1 f2 hl1 hl2 ⊢
  have pre : ∀ r : AV × Heap, (if le = 0 then seqE (runK C0 (exFn C0 E0 (k + 9)) false 14 (k + 9) (.seq (.seq (.region 13 (O14 13) false) (.seq (.region 14 (O14 14) false) (.cond (.tmp 77) (.seq (.region 15 (O14 15) false) .ret) .skip))) (.seq (.seq (.region 16 (O14 16) false) (.seq (.region 17 (O14 17) false) (.cond (.tmp 86) (.seq (.region 18 (O14 18) false) .ret) .skip))) (.seq (.seq (.region 19 (O14 19) false) (.seq (.region 20 (O14 20) false) (.cond (.tmp 91) (.seq (.region 21 (O14 21) false) .ret) .skip))) (.seq (.region 22 (O14 22) false) .ret)))) (retK [10, 11])) (retK [10, 11]) .normal (st 96 [(0, dp p), (1, .int .i64 a), (3, .int .i64 gen), (4, x), (12, .int .i64 nn), (13, .int .i64 nn), (52, .bool false)]) h1
      else some (.tuple [.int .i64 0, .int .i64 le], h1)) = some r → exFn C0 E0 (k + 9 + 1) false 14 [dp p, .int .i64 a, .int .i64 e, .int .i64 gen, x] h = some r := by
    intro r hr
    refine exFn_of e14 ?_
    rw [fnK, ln0, s14]
    simp -implicitDefEqProofs only [↓runK_seq, runK_seq, ↓runK_cond, runK_cond, ↓runK_block, runK_block, ↓runK_loop, runK_loop, ↓runK_skip, runK_skip, ↓runK_ret, runK_ret, ↓runK_exit, runK_exit, ↓seqE_n, seqE_n, ↓seqE_e, seqE_e, ↓seqE_r, seqE_r, ↓blkE_n, blkE_n, ↓blkE_e, blkE_e, ↓blkE_r, blkE_r, ↓retK_n, retK_n, ↓retK_r, retK_r, ↓aCall_fn, aCall_fn, ↓bnd_s, bnd_s, ↓bnd2_s, bnd2_s, ↓onB_t, onB_t, ↓onB_f, onB_f, ↓onT_t, onT_t, ↓aPick_t, aPick_t, ↓aPick_f, aPick_f, decide_true, decide_false, st_tmp, results1, results2, List.lookup_cons, List.lookup_nil, Nat.reduceBEq, Bool.false_eq_true, ↓reduceIte, BEq.rfl, Nat.reduceLT, Option.getD_some, Option.getD_none, ↓r14_0, r14_0, ↓r14_1, r14_1, J14_1_0, J14_1_1, J14_1_2, J14_1_3, J14_1_4, J14_1_5, J14_1_6, ↓r14_2, r14_2, ↓r14_3, r14_3, ↓r14_4, r14_4, J14_4_0, J14_4_1, J14_4_2, ↓r14_5, r14_5, ↓r14_6, r14_6, ↓r14_7, r14_7, ↓r14_8, r14_8, ↓r14_9, r14_9, ↓r14_10, r14_10, ↓r14_11, r14_11, ↓r14_12, r14_12, ↓r14_13, r14_13, ↓r14_14, r14_14, ↓r14_15, r14_15, ↓r14_16, r14_16, ↓r14_17, r14_17, ↓r14_18, r14_18, ↓r14_19, r14_19, ↓r14_20, r14_20, ↓r14_21, r14_21, ↓r14_22, r14_22, hx.len, bin_gtr, e1, bin_lss, e2, e3, e4, sk, e5, lk, min2_i64, mn, bin_sub, ws, e6]
    rw [f1]
    rw [← hr]
    split
    · simp -implicitDefEqProofs only [↓runK_seq, runK_seq, ↓runK_cond, runK_cond, ↓runK_block, runK_block, ↓runK_loop, runK_loop, ↓runK_skip, runK_skip, ↓runK_ret, runK_ret, ↓runK_exit, runK_exit, ↓seqE_n, seqE_n, ↓seqE_e, seqE_e, ↓seqE_r, seqE_r, ↓blkE_n, blkE_n, ↓blkE_e, blkE_e, ↓blkE_r, blkE_r, ↓retK_n, retK_n, ↓retK_r, retK_r]
    · simp -implicitDefEqProofs only [↓runK_seq, runK_seq, ↓runK_cond, runK_cond, ↓runK_block, runK_block, ↓runK_loop, runK_loop, ↓runK_skip, runK_skip, ↓runK_ret, runK_ret, ↓runK_exit, runK_exit, ↓seqE_n, seqE_n, ↓seqE_e, seqE_e, ↓seqE_r, seqE_r, ↓blkE_n, blkE_n, ↓blkE_e, blkE_e, ↓blkE_r, blkE_r, ↓retK_n, retK_n, ↓retK_r, retK_r, ↓aCall_fn, aCall_fn, ↓bnd_s, bnd_s, ↓bnd2_s, bnd2_s, ↓onB_t, onB_t, ↓onB_f, onB_f, ↓onT_t, onT_t, ↓aPick_t, aPick_t, ↓aPick_f, aPick_f, decide_true, decide_false, st_tmp, results1, results2, List.lookup_cons, List.lookup_nil, Nat.reduceBEq, Bool.false_eq_true, ↓reduceIte, BEq.rfl, Nat.reduceLT, Option.getD_some, Option.getD_none]
  by_cases z1 : le = 0
  case neg =>
    rw [if_pos z1]
    refine ⟨h1, pre _ ?_, f2, f3⟩
    rw [if_neg z1]
  subst z1
  rw [if_neg (fun h => h rfl)]
  have c0 : decide ((0 : Int) ≠ 0) = false := by decide
  have up1 := up.keep f3
  obtain ⟨h2, g1, g2, g3⟩ := flush_ok f2 up1 (by omega) (by omega) false (k + 8) (by omega)
  have ffz := flush_fuse ld
  have flo := flush_loose ld
  generalize ld.flush = F at *
  obtain ⟨fe, fd⟩ := F
  simp only at g1 g2 ffz flo ⊢
  by_cases z2 : fe = 0
  case neg =>
    rw [if_pos z2]
    refine ⟨h2, pre _ ?_, g2, f3.trans g3⟩
    have c1 : decide (fe ≠ 0) = true := decide_eq_true z2
    rw [if_pos rfl]
    simp -implicitDefEqProofs only [↓runK_seq, runK_seq, ↓runK_cond, runK_cond, ↓runK_block, runK_block, ↓runK_loop, runK_loop, ↓runK_skip, runK_skip, ↓runK_ret, runK_ret, ↓runK_exit, runK_exit, ↓seqE_n, seqE_n, ↓seqE_e, seqE_e, ↓seqE_r, seqE_r, ↓blkE_n, blkE_n, ↓blkE_e, blkE_e, ↓blkE_r, blkE_r, ↓retK_n, retK_n, ↓retK_r, retK_r, ↓aCall_fn, aCall_fn, ↓bnd_s, bnd_s, ↓bnd2_s, bnd2_s, ↓onB_t, onB_t, ↓onB_f, onB_f, ↓onT_t, onT_t, ↓aPick_t, aPick_t, ↓aPick_f, aPick_f, decide_true, decide_false, st_tmp, results1, results2, List.lookup_cons, List.lookup_nil, Nat.reduceBEq, Bool.false_eq_true, ↓reduceIte, BEq.rfl, Nat.reduceLT, Option.getD_some, Option.getD_none, ↓r14_0, r14_0, ↓r14_1, r14_1, J14_1_0, J14_1_1, J14_1_2, J14_1_3, J14_1_4, J14_1_5, J14_1_6, ↓r14_2, r14_2, ↓r14_3, r14_3, ↓r14_4, r14_4, J14_4_0, J14_4_1, J14_4_2, ↓r14_5, r14_5, ↓r14_6, r14_6, ↓r14_7, r14_7, ↓r14_8, r14_8, ↓r14_9, r14_9, ↓r14_10, r14_10, ↓r14_11, r14_11, ↓r14_12, r14_12, ↓r14_13, r14_13, ↓r14_14, r14_14, ↓r14_15, r14_15, ↓r14_16, r14_16, ↓r14_17, r14_17, ↓r14_18, r14_18, ↓r14_19, r14_19, ↓r14_20, r14_20, ↓r14_21, r14_21, ↓r14_22, r14_22, g1, neq27, c1]
  subst z2
  rw [if_neg (fun h => h rfl)]
  have up2 := up1.keep g3
  obtain ⟨y, h3, i1, i2, i3⟩ := first_ok hx (by omega) gen h2 (k + 8) (by omega)
  have g2' := g2.fresh i3
  have up3 := up2.keep i3
  obtain ⟨h4, j1, j2, j3⟩ := write_ok g2' up3 (a : Int) (U := fun _ => False) (b := head16 (BitVec.ofInt 32 gen) b) (.inl i2.bs) (fun _ _ h => h.elim) (by omega) (by omega) (k + 6)
  have wfz := write_fuse fd (a : Int) (head16 (BitVec.ofInt 32 gen) b)
  have wlo := write_loose fd (a : Int) (head16 (BitVec.ofInt 32 gen) b)
  have kk := (f3.trans g3).trans (i3.up up2)
  generalize fd.write (a : Int) (head16 (BitVec.ofInt 32 gen) b) = W at *
  obtain ⟨we, wd⟩ := W
  simp only at j1 j2 wfz wlo ⊢
  by_cases z3 : we = 0
  case neg =>
    rw [if_pos z3]
    refine ⟨h4, pre _ ?_, j2, kk.trans j3⟩
    have c1 : decide (we ≠ 0) = true := decide_eq_true z3
    rw [if_pos rfl]
    simp -implicitDefEqProofs only [↓runK_seq, runK_seq, ↓runK_cond, runK_cond, ↓runK_block, runK_block, ↓runK_loop, runK_loop, ↓runK_skip, runK_skip, ↓runK_ret, runK_ret, ↓runK_exit, runK_exit, ↓seqE_n, seqE_n, ↓seqE_e, seqE_e, ↓seqE_r, seqE_r, ↓blkE_n, blkE_n, ↓blkE_e, blkE_e, ↓blkE_r, blkE_r, ↓retK_n, retK_n, ↓retK_r, retK_r, ↓aCall_fn, aCall_fn, ↓bnd_s, bnd_s, ↓bnd2_s, bnd2_s, ↓onB_t, onB_t, ↓onB_f, onB_f, ↓onT_t, onT_t, ↓aPick_t, aPick_t, ↓aPick_f, aPick_f, decide_true, decide_false, st_tmp, results1, results2, List.lookup_cons, List.lookup_nil, Nat.reduceBEq, Bool.false_eq_true, ↓reduceIte, BEq.rfl, Nat.reduceLT, Option.getD_some, Option.getD_none, ↓r14_0, r14_0, ↓r14_1, r14_1, J14_1_0, J14_1_1, J14_1_2, J14_1_3, J14_1_4, J14_1_5, J14_1_6, ↓r14_2, r14_2, ↓r14_3, r14_3, ↓r14_4, r14_4, J14_4_0, J14_4_1, J14_4_2, ↓r14_5, r14_5, ↓r14_6, r14_6, ↓r14_7, r14_7, ↓r14_8, r14_8, ↓r14_9, r14_9, ↓r14_10, r14_10, ↓r14_11, r14_11, ↓r14_12, r14_12, ↓r14_13, r14_13, ↓r14_14, r14_14, ↓r14_15, r14_15, ↓r14_16, r14_16, ↓r14_17, r14_17, ↓r14_18, r14_18, ↓r14_19, r14_19, ↓r14_20, r14_20, ↓r14_21, r14_21, ↓r14_22, r14_22, g1, neq27, c0, i1, j1, c1]
  subst z3
  rw [if_neg (fun h => h rfl)]
  have up4 := up3.keep j3
  obtain ⟨h5, l1, l2, l3⟩ := flush_ok j2 up4 (by omega) (by omega) false (k + 8) (by omega)
  generalize wd.flush = G at *
  obtain ⟨ge, gd⟩ := G
  simp only at l1 l2 ⊢
  by_cases z4 : ge = 0
  case neg =>
    rw [if_pos z4]
    refine ⟨h5, pre _ ?_, l2, (kk.trans j3).trans l3⟩
    have c1 : decide (ge ≠ 0) = true := decide_eq_true z4
    rw [if_pos rfl]
    simp -implicitDefEqProofs only [↓runK_seq, runK_seq, ↓runK_cond, runK_cond, ↓runK_block, runK_block, ↓runK_loop, runK_loop, ↓runK_skip, runK_skip, ↓runK_ret, runK_ret, ↓runK_exit, runK_exit, ↓seqE_n, seqE_n, ↓seqE_e, seqE_e, ↓seqE_r, seqE_r, ↓blkE_n, blkE_n, ↓blkE_e, blkE_e, ↓blkE_r, blkE_r, ↓retK_n, retK_n, ↓retK_r, retK_r, ↓aCall_fn, aCall_fn, ↓bnd_s, bnd_s, ↓bnd2_s, bnd2_s, ↓onB_t, onB_t, ↓onB_f, onB_f, ↓onT_t, onT_t, ↓aPick_t, aPick_t, ↓aPick_f, aPick_f, decide_true, decide_false, st_tmp, results1, results2, List.lookup_cons, List.lookup_nil, Nat.reduceBEq, Bool.false_eq_true, ↓reduceIte, BEq.rfl, Nat.reduceLT, Option.getD_some, Option.getD_none, ↓r14_0, r14_0, ↓r14_1, r14_1, J14_1_0, J14_1_1, J14_1_2, J14_1_3, J14_1_4, J14_1_5, J14_1_6, ↓r14_2, r14_2, ↓r14_3, r14_3, ↓r14_4, r14_4, J14_4_0, J14_4_1, J14_4_2, ↓r14_5, r14_5, ↓r14_6, r14_6, ↓r14_7, r14_7, ↓r14_8, r14_8, ↓r14_9, r14_9, ↓r14_10, r14_10, ↓r14_11, r14_11, ↓r14_12, r14_12, ↓r14_13, r14_13, ↓r14_14, r14_14, ↓r14_15, r14_15, ↓r14_16, r14_16, ↓r14_17, r14_17, ↓r14_18, r14_18, ↓r14_19, r14_19, ↓r14_20, r14_20, ↓r14_21, r14_21, ↓r14_22, r14_22, g1, neq27, c0, i1, j1, l1, c1]
  subst z4
  rw [if_neg (fun h => h rfl)]
  refine ⟨h5, pre _ ?_, l2, (kk.trans j3).trans l3⟩
  have wf : IntKind.i64.wrap ((a : Int) + nn) = (a : Int) + nn := by rw [wrap_i64] <;> omega
  rw [if_pos rfl]
  simp -implicitDefEqProofs only [↓runK_seq, runK_seq, ↓runK_cond, runK_cond, ↓runK_block, runK_block, ↓runK_loop, runK_loop, ↓runK_skip, runK_skip, ↓runK_ret, runK_ret, ↓runK_exit, runK_exit, ↓seqE_n, seqE_n, ↓seqE_e, seqE_e, ↓seqE_r, seqE_r, ↓blkE_n, blkE_n, ↓blkE_e, blkE_e, ↓blkE_r, blkE_r, ↓retK_n, retK_n, ↓retK_r, retK_r, ↓aCall_fn, aCall_fn, ↓bnd_s, bnd_s, ↓bnd2_s, bnd2_s, ↓onB_t, onB_t, ↓onB_f, onB_f, ↓onT_t, onT_t, ↓aPick_t, aPick_t, ↓aPick_f, aPick_f, decide_true, decide_false, st_tmp, results1, results2, List.lookup_cons, List.lookup_nil, Nat.reduceBEq, Bool.false_eq_true, ↓reduceIte, BEq.rfl, Nat.reduceLT, Option.getD_some, Option.getD_none, ↓r14_0, r14_0, ↓r14_1, r14_1, J14_1_0, J14_1_1, J14_1_2, J14_1_3, J14_1_4, J14_1_5, J14_1_6, ↓r14_2, r14_2, ↓r14_3, r14_3, ↓r14_4, r14_4, J14_4_0, J14_4_1, J14_4_2, ↓r14_5, r14_5, ↓r14_6, r14_6, ↓r14_7, r14_7, ↓r14_8, r14_8, ↓r14_9, r14_9, ↓r14_10, r14_10, ↓r14_11, r14_11, ↓r14_12, r14_12, ↓r14_13, r14_13, ↓r14_14, r14_14, ↓r14_15, r14_15, ↓r14_16, r14_16, ↓r14_17, r14_17, ↓r14_18, r14_18, ↓r14_19, r14_19, ↓r14_20, r14_20, ↓r14_21, r14_21, ↓r14_22, r14_22, g1, neq27, c0, i1, j1, l1, bin_add, wf, hnn]
end Go.Ax

/- What the regions of some functions hand on. Printed by a program of mine (gen.py). -/
set_option linter.unusedVariables false
namespace Go.Ax
open Go Go.Proofs
/-! ### interregnum/region.Scan -/
noncomputable def O15 (i : Nat) : Array Oper := opsOf i (bodyOf Try.f15)
noncomputable def B15_1 : Code := (.block 1 (.seq (.region 2 (O15 2) false) (.seq (.seq (.region 3 (O15 3) false) (.cond (Go.Operand.tmp 22) (.seq (.region 4 (O15 4) false) .ret) .skip)) (.seq (.region 5 (O15 5) false) (.region 6 (O15 6) false)))))
theorem s15 : bodyOf Try.f15 = (.seq (.region 0 (O15 0) false) (.seq (.region 1 (O15 1) false) (.block 0 (.loop B15_1)))) := by kernel_rfl
theorem e15 : E0 15 = some ⟨34, [8, 9], bodyOf Try.f15⟩ := by kernel_rfl
theorem r15_0 {β : Type} (call : CallF) (md : Bool) (n : Nat) (k : Ex → List AV → Heap → Option β) (x0 x1 x2 x3 : AV) (h : Heap) :
    runK C0 call md 15 n (.region 0 (O15 0) false) k (st 34 [(0, x0), (1, x1), (2, x2), (3, x3)]) h =
    k .normal (st 34 [(0, x0), (1, x1), (2, x2), (3, x3)]) h
  := by kernel_rfl
theorem r15_1 {β : Type} (call : CallF) (md : Bool) (n : Nat) (k : Ex → List AV → Heap → Option β) (x0 x1 x2 x3 : AV) (h : Heap) :
    runK C0 call md 15 n (.region 1 (O15 1) false) k (st 34 [(0, x0), (1, x1), (2, x2), (3, x3)]) h =
    k .normal (st 34 [(0, x0), (1, x1), (2, x2), (3, x3), (10, .nils)]) h
  := by kernel_rfl
theorem r15_2 {β : Type} (call : CallF) (md : Bool) (n : Nat) (k : Ex → List AV → Heap → Option β) (x0 x1 x2 x3 x10 : AV) (h : Heap) :
    runK C0 call md 15 n (.region 2 (O15 2) false) k (st 34 [(0, x0), (1, x1), (2, x2), (3, x3), (10, x10)]) h =
    bnd2 (aCall call md (.fn (.func 48) []) [x0, x1, x2, x3] h) fun v1 h2 =>
    bnd (aExtract v1 0) fun v3 =>
    bnd (aExtract v1 1) fun v4 =>
    k .normal (st 34 [(0, x0), (1, x1), (2, x2), (3, x3), (10, x10), (11, v3), (12, v4)]) h2
  := by kernel_rfl
theorem r15_3 {β : Type} (call : CallF) (md : Bool) (n : Nat) (k : Ex → List AV → Heap → Option β) (x0 x1 x2 x3 x10 x11 x12 : AV) (h : Heap) :
    runK C0 call md 15 n (.region 3 (O15 3) false) k (st 34 [(0, x0), (1, x1), (2, x2), (3, x3), (10, x10), (11, x11), (12, x12)]) h =
    bnd (aUn .not x12) fun v1 =>
    k .normal (st 34 [(0, x0), (1, x1), (2, x2), (3, x3), (10, x10), (11, x11), (22, v1)]) h
  := by kernel_rfl
theorem r15_4 {β : Type} (call : CallF) (md : Bool) (n : Nat) (k : Ex → List AV → Heap → Option β) (x0 x1 x2 x3 x10 x11 x22 : AV) (h : Heap) :
    runK C0 call md 15 n (.region 4 (O15 4) false) k (st 34 [(0, x0), (1, x1), (2, x2), (3, x3), (10, x10), (11, x11), (22, x22)]) h =
    k .normal (st 34 [(8, x10), (9, x1)]) h
  := by kernel_rfl
theorem r15_5 {β : Type} (call : CallF) (md : Bool) (n : Nat) (k : Ex → List AV → Heap → Option β) (x0 x1 x2 x3 x10 x11 x22 : AV) (h : Heap) :
    runK C0 call md 15 n (.region 5 (O15 5) false) k (st 34 [(0, x0), (1, x1), (2, x2), (3, x3), (10, x10), (11, x11), (22, x22)]) h =
    bnd (aLit tab 30 1 [(0, x11)]) fun v1 =>
    bnd2 (aApp tab 30 30 md x10 v1 h) fun v2 h3 =>
    k .normal (st 34 [(0, x0), (1, x1), (2, x2), (3, x3), (10, v2), (11, x11)]) h3
  := by kernel_rfl
theorem r15_6 {β : Type} (call : CallF) (md : Bool) (n : Nat) (k : Ex → List AV → Heap → Option β) (x0 x1 x2 x3 x10 x11 : AV) (h : Heap) :
    runK C0 call md 15 n (.region 6 (O15 6) false) k (st 34 [(0, x0), (1, x1), (2, x2), (3, x3), (10, x10), (11, x11)]) h =
    bnd (aLen tab 22 x11) fun v1 =>
    bnd2 (aCall call md (.fn (.func 45) []) [v1] h) fun v2 h3 =>
    bnd (aBinC tab .add 3 x1 v2 false) fun v4 =>
    k .normal (st 34 [(0, x0), (1, v4), (2, x2), (3, x3), (10, x10)]) h3
  := by kernel_rfl
end Go.Ax

/- region.Scan: the entries of a generation. -/
namespace Go.Ax
open Go Go.Proofs

theorem oneOf_some {now : List (List UInt8)} (hc : ∀ b ∈ now, b.length = 64) {at' e gen : Int} {b : List UInt8} (h : oneOf now at' e gen = some b) :
    0 ≤ at' ∧ at' + sizeOf b.length ≤ now.length ∧ at' + sizeOf b.length ≤ e ∧ b.length ≤ 8192 := by
  unfold oneOf at h
  split at h
  · rename_i h0
    simp only at h
    split at h
    · cases h
    · split at h
      · cases h
      · rename_i h1 h2
        split at h
        · generalize hs : (get4 (((now[at'.toNat]?).getD []).drop 4)).toNat = size at *
          have h3 : ¬ 8192 < size := fun x => h2 (.inl x)
          have h4 : ¬ min e now.length - at' < sizeOf size := fun x => h2 (.inr x)
          have hl := bodyAt_length now hc at'.toNat ((sizeOf size).toNat - 1) (by unfold sizeOf at h4 ⊢; omega)
          have hb : b.length = size := by
            cases h
            rw [List.length_take, hl]
            unfold sizeOf
            omega
          rw [hb]
          exact ⟨h0.1, by omega, by omega, by omega⟩
        · cases h
  · cases h

theorem sizeOf_pos (n : Int) : 1 ≤ sizeOf n := by unfold sizeOf; omega

/-- The entries from a sector on, and the sector behind them. -/
def scanOf (now : List (List UInt8)) (e gen : Int) : Nat → Int → List (List UInt8) × Int
  | 0, a => ([], a)
  | f + 1, a => match oneOf now a e gen with
    | none => ([], a)
    | some b => (b :: (scanOf now e gen f (a + sizeOf b.length)).1, (scanOf now e gen f (a + sizeOf b.length)).2)

theorem scanOf_none {now : List (List UInt8)} {e gen a : Int} {f : Nat} (h : oneOf now a e gen = none) : scanOf now e gen (f + 1) a = ([], a) := by simp [scanOf, h]
theorem scanOf_some {now : List (List UInt8)} {e gen a : Int} {f : Nat} {b : List UInt8} (h : oneOf now a e gen = some b) :
    scanOf now e gen (f + 1) a = (b :: (scanOf now e gen f (a + sizeOf b.length)).1, (scanOf now e gen f (a + sizeOf b.length)).2) := by simp [scanOf, h]

/-- Byte slices of so many contents. -/
inductive BsL : List AV → List (List UInt8) → Prop
  | nil : BsL [] []
  | cons {v l vs ls} : Bs v l → BsL vs ls → BsL (v :: vs) (l :: ls)

/-- Lists of bytes to append to. -/
def ApR (S : Obs) (h : Heap) (x : AV) (ls : List (List UInt8)) : Prop := ∃ vs, Ap 22 S h x vs ∧ BsL vs ls

theorem Bs.fits {x : AV} {l : List UInt8} (b : Bs x l) : fits tab 22 x = true := by
  rcases b with ⟨rfl, -⟩ | ⟨k, rfl⟩ <;> rfl
theorem lit30 (v : AV) (h : fits tab 22 v = true) : aLit tab 30 1 [(0, v)] = some (.vsl 22 [v] .exact) := by simp [aLit, aElems, aFill, h]
theorem app30 (x : AV) (new : List AV) (k : Tok) (h : Heap) : aApp tab 30 30 false x (.vsl 22 new k) h = aAppend tab 22 false x new h := by kernel_rfl

theorem BsL.length : ∀ {l : List AV} {m : List (List UInt8)}, BsL l m → l.length = m.length
  | _, _, .nil => rfl
  | _, _, .cons _ t => by simp [BsL.length t]
theorem BsL.append : ∀ {l l' : List AV} {m m' : List (List UInt8)}, BsL l m → BsL l' m' → BsL (l ++ l') (m ++ m')
  | _, _, _, _, .nil, h => h
  | _, _, _, _, .cons a t, h => .cons a (BsL.append t h)

theorem ApR.append {S : Obs} {h : Heap} {x v : AV} {ls : List (List UInt8)} {b : List UInt8} (a : ApR S h x ls) (up : Up S h) (hv : Bs v b) (hl : ls.length < 2 ^ 40) :
    ∃ x' h', aAppend tab 22 false x [v] h = some (x', h') ∧ ApR S h' x' (ls ++ [b]) ∧ Keep S h h' := by
  obtain ⟨vs, ha, hf⟩ := a
  have e := hf.length
  obtain ⟨x', h', kk, ap, -, ha2, k2, -⟩ := Ap.append (T := tab) (e := 22) (S := S) (h := h) (x := x) (l := vs) (new := [v]) (by rw [tu22]; exact ha) up (by simp) (by simp)
    (by simp only [tb22, List.length_singleton]; omega) (by simp only [List.length_singleton]; omega) (by simp)
  rw [tu22] at ha2
  exact ⟨x', h', ap, ⟨_, ha2, hf.append (.cons hv .nil)⟩, k2⟩

theorem ApR.fresh {S : Obs} {h h' : Heap} {x : AV} {ls : List (List UInt8)} (a : ApR S h x ls) (k : Keep (From h.length) h h') : ApR S h' x ls := by
  obtain ⟨vs, ha, hf⟩ := a
  exact ⟨vs, ha.fresh k, hf⟩

theorem scan_loop {S U : Obs} {p r : Nat} {d : Dk} (hl : d.loose.length < 2 ^ 30) (dis : ∀ i, S i → ¬ U i) (e gen : Int) (N : Nat) (hN : d.loose.length + 9000 < N) :
    ∀ (f n : Nat) (a : Int) (acc : AV) (h : Heap) (ls : List (List UInt8)), (0 ≤ a → (d.lasts.length : Int) - a < f) → f ≤ n → 0 < f → Up U h → Dsk S h p r d → ApR U h acc ls → ls.length + (f : Int) < 2 ^ 39 →
    ∃ acc' h', (∀ K : Ex → List AV → Heap → Option (AV × Heap), loopK (fun next => runK C0 (exFn C0 E0 (N + 1)) false 15 (N + 1) B15_1 (seqE next K)) n (st 34 [(0, dp p), (1, .int .i64 a), (2, .int .i64 e), (3, .int .i64 gen), (10, acc)]) h =
      K .ret (st 34 [(8, acc'), (9, .int .i64 (scanOf d.now e gen f a).2)]) h') ∧
      ApR U h' acc' (ls ++ (scanOf d.now e gen f a).1) ∧ Keep U h h' := by
  intro f
  induction f with
  | zero => intro n a acc h ls _ _ h0; omega
  | succ f ih =>
    intro n a acc h ls hf hn _ up D hacc hll
    obtain ⟨n, rfl⟩ : ∃ j, n = j + 1 := ⟨n - 1, by omega⟩
    obtain ⟨x, h1, r1, r2, r3⟩ := one_ok D hl a e gen N hN
    have D1 := D.fresh r3
    have acc1 := hacc.fresh r3
    have up1 := up.keep r3
    cases ho : oneOf d.now a e gen with
    | none =>
      rw [ho] at r1
      rw [scanOf_none ho]
      refine ⟨acc, h1, fun K => ?_, by simpa using acc1, r3.up up⟩
      rw [loopK_succ]
      generalize loopK (_ : (List AV → Heap → Option (AV × Heap)) → List AV → Heap → Option (AV × Heap)) n = Lp
      simp -implicitDefEqProofs only [B15_1, ↓runK_seq, runK_seq, ↓runK_cond, runK_cond, ↓runK_block, runK_block, ↓runK_loop, runK_loop, ↓runK_skip, runK_skip, ↓runK_ret, runK_ret, ↓runK_exit, runK_exit, ↓seqE_n, seqE_n, ↓seqE_e, seqE_e, ↓seqE_r, seqE_r, ↓blkE_n, blkE_n, ↓blkE_e, blkE_e, ↓blkE_r, blkE_r, ↓retK_n, retK_n, ↓retK_r, retK_r, ↓aCall_fn, aCall_fn, ↓bnd_s, bnd_s, ↓bnd2_s, bnd2_s, ↓onB_t, onB_t, ↓onB_f, onB_f, ↓onT_t, onT_t, ↓aPick_t, aPick_t, ↓aPick_f, aPick_f, decide_true, decide_false, st_tmp, results1, results2, List.lookup_cons, List.lookup_nil, Nat.reduceBEq, Bool.false_eq_true, ↓reduceIte, BEq.rfl, Nat.reduceLT, Option.getD_some, Option.getD_none, ↓r15_0, r15_0, ↓r15_1, r15_1, ↓r15_2, r15_2, ↓r15_3, r15_3, ↓r15_4, r15_4, ↓r15_5, r15_5, ↓r15_6, r15_6, r1, ext0, ext1, un_not, Option.isSome_none, Bool.not_false]
    | some b =>
      rw [ho] at r1
      obtain ⟨b1, b2, b3, b4⟩ := oneOf_some D.now_cells ho
      have hf := hf b1
      rw [D.now_length] at b2
      have hfew := D.few
      have hsp := sizeOf_pos b.length
      rw [scanOf_some ho]
      have bs := (r2 b ho).bs
      obtain ⟨acc', h2, ap, a2, k2⟩ := acc1.append up1 bs (by omega)
      have sk := size_ok (b.length : Int) (by omega) false h2 N
      have wr : IntKind.i64.wrap (a + sizeOf b.length) = a + sizeOf b.length := by rw [wrap_i64] <;> omega
      have k12 := (r3.up up).trans k2
      obtain ⟨acc'', h3, g1, g2, g3⟩ := ih n (a + sizeOf b.length) acc' h2 (ls ++ [b]) (by omega) (by omega) (by omega) (up1.keep k2) (D.keep k12 fun j _ hj => dis j hj) a2 (by simp only [List.length_append, List.length_singleton]; omega)
      refine ⟨acc'', h3, fun K => ?_, by simpa using g2, k12.trans g3⟩
      rw [loopK_succ, ← g1 K]
      generalize loopK (_ : (List AV → Heap → Option (AV × Heap)) → List AV → Heap → Option (AV × Heap)) n = Lp
      simp -implicitDefEqProofs only [B15_1, ↓runK_seq, runK_seq, ↓runK_cond, runK_cond, ↓runK_block, runK_block, ↓runK_loop, runK_loop, ↓runK_skip, runK_skip, ↓runK_ret, runK_ret, ↓runK_exit, runK_exit, ↓seqE_n, seqE_n, ↓seqE_e, seqE_e, ↓seqE_r, seqE_r, ↓blkE_n, blkE_n, ↓blkE_e, blkE_e, ↓blkE_r, blkE_r, ↓retK_n, retK_n, ↓retK_r, retK_r, ↓aCall_fn, aCall_fn, ↓bnd_s, bnd_s, ↓bnd2_s, bnd2_s, ↓onB_t, onB_t, ↓onB_f, onB_f, ↓onT_t, onT_t, ↓aPick_t, aPick_t, ↓aPick_f, aPick_f, decide_true, decide_false, st_tmp, results1, results2, List.lookup_cons, List.lookup_nil, Nat.reduceBEq, Bool.false_eq_true, ↓reduceIte, BEq.rfl, Nat.reduceLT, Option.getD_some, Option.getD_none, ↓r15_0, r15_0, ↓r15_1, r15_1, ↓r15_2, r15_2, ↓r15_3, r15_3, ↓r15_4, r15_4, ↓r15_5, r15_5, ↓r15_6, r15_6, r1, ext0, ext1, un_not, Option.isSome_some, Bool.not_true, lit30 _ bs.fits, app30, ap, bs.len, sk, bin_add, wr]

def Dk.scan (d : Dk) (a e gen : Int) : List (List UInt8) × Int := scanOf d.now e gen (d.lasts.length + 1) a

theorem scanOf_neg {now : List (List UInt8)} {e gen a : Int} (h : a < 0) (f : Nat) : scanOf now e gen f a = ([], a) := by
  cases f with
  | zero => rfl
  | succ f => exact scanOf_none (oneOf_out (by omega))

theorem scan_ok {S : Obs} {p r : Nat} {h : Heap} {d : Dk} (D : Dsk S h p r d) (hl : d.loose.length < 2 ^ 30) (a e gen : Int) (k : Nat) (hk : d.loose.length + 9001 < k) :
    ∃ x h', exFn C0 E0 (k + 1) false 15 [dp p, .int .i64 a, .int .i64 e, .int .i64 gen] h = some (.tuple [x, .int .i64 (d.scan a e gen).2], h') ∧
      ApR (From h.length) h' x (d.scan a e gen).1 ∧ Keep (From h.length) h h' := by
  obtain ⟨k, rfl⟩ : ∃ j, k = j + 1 := ⟨k - 1, by omega⟩
  have hfew := D.few
  have n0 : ([dp p, .int .i64 a, .int .i64 e, .int .i64 gen] ++ List.replicate (34 - [dp p, .int .i64 a, .int .i64 e, .int .i64 gen].length) AV.undef) = st 34 [(0, dp p), (1, .int .i64 a), (2, .int .i64 e), (3, .int .i64 gen)] := rfl
  obtain ⟨x, h', h1, h2, h3⟩ := scan_loop (U := From h.length) hl (S := fun i => i < h.length) (fun i hi hj => absurd hj (Nat.not_le.2 hi)) e gen k (by omega) (d.lasts.length + 1) (k + 1) a .nils h [] (by omega) (by omega) (by omega)
    (Up.fresh h) D.low ⟨[], .inl ⟨rfl, rfl⟩, .nil⟩ (by simp only [List.length_nil]; omega)
  refine ⟨x, h', exFn_of e15 ?_, h2, h3⟩
  rw [fnK, n0, s15]
  simp -implicitDefEqProofs only [↓runK_seq, runK_seq, ↓runK_cond, runK_cond, ↓runK_block, runK_block, ↓runK_loop, runK_loop, ↓runK_skip, runK_skip, ↓runK_ret, runK_ret, ↓runK_exit, runK_exit, ↓seqE_n, seqE_n, ↓seqE_e, seqE_e, ↓seqE_r, seqE_r, ↓blkE_n, blkE_n, ↓blkE_e, blkE_e, ↓blkE_r, blkE_r, ↓retK_n, retK_n, ↓retK_r, retK_r, ↓aCall_fn, aCall_fn, ↓bnd_s, bnd_s, ↓bnd2_s, bnd2_s, ↓onB_t, onB_t, ↓onB_f, onB_f, ↓onT_t, onT_t, ↓aPick_t, aPick_t, ↓aPick_f, aPick_f, decide_true, decide_false, st_tmp, results1, results2, List.lookup_cons, List.lookup_nil, Nat.reduceBEq, Bool.false_eq_true, ↓reduceIte, BEq.rfl, Nat.reduceLT, Option.getD_some, Option.getD_none, ↓r15_0, r15_0, ↓r15_1, r15_1, ↓r15_2, r15_2, ↓r15_3, r15_3, ↓r15_4, r15_4, ↓r15_5, r15_5, ↓r15_6, r15_6]
  rw [h1]
  simp -implicitDefEqProofs only [↓runK_seq, runK_seq, ↓runK_cond, runK_cond, ↓runK_block, runK_block, ↓runK_loop, runK_loop, ↓runK_skip, runK_skip, ↓runK_ret, runK_ret, ↓runK_exit, runK_exit, ↓seqE_n, seqE_n, ↓seqE_e, seqE_e, ↓seqE_r, seqE_r, ↓blkE_n, blkE_n, ↓blkE_e, blkE_e, ↓blkE_r, blkE_r, ↓retK_n, retK_n, ↓retK_r, retK_r, ↓aCall_fn, aCall_fn, ↓bnd_s, bnd_s, ↓bnd2_s, bnd2_s, ↓onB_t, onB_t, ↓onB_f, onB_f, ↓onT_t, onT_t, ↓aPick_t, aPick_t, ↓aPick_f, aPick_f, decide_true, decide_false, st_tmp, results1, results2, List.lookup_cons, List.lookup_nil, Nat.reduceBEq, Bool.false_eq_true, ↓reduceIte, BEq.rfl, Nat.reduceLT, Option.getD_some, Option.getD_none, Dk.scan]
end Go.Ax

/- Plain laws: what Lay has laid on a disk that is up, Scan finds. -/
namespace Go.Ax
open Go Go.Proofs

/-- A disk that is up, and stays so; nothing is loose. -/
def Calm (l : List (List UInt8)) : Dk := ⟨l, [], -1, false⟩

def parts (a : Nat) (b : List UInt8) (i m : Nat) : List (Nat × List UInt8) := (List.range' i m).map fun j => (a + j, pad (chunk b j))

theorem parts_succ (a : Nat) (b : List UInt8) (i m : Nat) : parts a b i (m + 1) = (a + i, pad (chunk b i)) :: parts a b (i + 1) m := by
  simp [parts, List.range'_succ]
theorem parts_snoc (a : Nat) (b : List UInt8) (i m : Nat) : parts a b i (m + 1) = parts a b i m ++ [(a + (i + m), pad (chunk b (i + m)))] := by
  simp [parts, List.range'_concat]

theorem chunk_length (b : List UInt8) (i : Nat) : (chunk b i).length ≤ 64 := by unfold chunk; rw [List.length_take]; omega
theorem pad_length (b : List UInt8) (h : b.length ≤ 64) : (pad b).length = 64 := by unfold pad; simp; omega

theorem calm_write (l : List (List UInt8)) (ws : List (Nat × List UInt8)) (a : Nat) (b : List UInt8) (ha : a < l.length) (hb : b.length ≤ 64) :
    (⟨l, ws, -1, false⟩ : Dk).write a b = (0, ⟨l, ws ++ [(a, pad b)], -1, false⟩) := by
  unfold Dk.write
  rw [if_neg (by rintro (h | h); exact h ⟨by omega, by simpa using ha⟩; omega)]
  simp [Dk.burn, Dk.add]
theorem calm_flush (l : List (List UInt8)) (ws : List (Nat × List UInt8)) : (⟨l, ws, -1, false⟩ : Dk).flush = (0, Calm (land l ws)) := by
  simp [Dk.flush, Dk.burn, Dk.now, Calm]

theorem calm_loop (l : List (List UInt8)) (a : Nat) (b : List UInt8) : ∀ (m i : Nat) (ws : List (Nat × List UInt8)), a + i + m ≤ l.length →
    layLoop a b m i ⟨l, ws, -1, false⟩ = (0, ⟨l, ws ++ parts a b i m, -1, false⟩) := by
  intro m
  induction m with
  | zero => intro i ws _; simp [layLoop, parts]
  | succ m ih =>
    intro i ws h
    have e : ((a : Int) + i) = ((a + i : Nat) : Int) := by omega
    have w := calm_write l ws (a + i) (chunk b i) (by omega) (chunk_length b i)
    rw [layLoop_go (by rw [e, w]), e, w, ih (i + 1) _ (by omega), parts_succ]
    simp

def nOf (b : List UInt8) : Nat := (sizeOf b.length).toNat
theorem nOf_eq (b : List UInt8) : (nOf b : Int) = sizeOf b.length := by unfold nOf sizeOf; omega
theorem nOf_eq' (b : List UInt8) : nOf b = 1 + (b.length + 63) / 64 := by unfold nOf sizeOf; omega

theorem head16_length (g : BitVec 32) (b : List UInt8) : (head16 g b).length = 16 := by simp [head16, head12, be4]

/-- The sectors behind a Lay. -/
def laid (l : List (List UInt8)) (a : Nat) (gen : Int) (b : List UInt8) : List (List UInt8) := land l (parts a b 1 (nOf b - 1) ++ [(a, pad (head16 (BitVec.ofInt 32 gen) b))])

theorem land_append (l : List (List UInt8)) (u v : List (Nat × List UInt8)) : land l (u ++ v) = land (land l u) v := by simp [land]

theorem lay_calm (l : List (List UInt8)) (a : Nat) (e gen : Int) (b : List UInt8) (hb : b.length ≤ 8192) (h0 : 0 ≤ gen) (h1 : gen ≤ 2147483647) (he : (a : Int) ≤ e) (hn : sizeOf b.length ≤ min e l.length - a) :
    (Calm l).lay a e gen b = ((((a + nOf b : Nat) : Int), 0), Calm (laid l a gen b)) := by
  have hn1 := nOf_eq b
  have hn2 := nOf_eq' b
  have hloop := calm_loop l a b (nOf b - 1) 1 [] (by omega)
  rw [lay_go (d := Calm l) (l := (0, ⟨l, parts a b 1 (nOf b - 1), -1, false⟩)) (by omega) (by show ¬ (_ ∨ min e (l.length : Int) - _ < _); omega) hloop]
  have hlen : (land l (parts a b 1 (nOf b - 1))).length = l.length := land_length _ _
  have w := calm_write (land l (parts a b 1 (nOf b - 1))) [] a (head16 (BitVec.ofInt 32 gen) b) (by omega) (by rw [head16_length]; omega)
  simp only [calm_flush]
  rw [show (Calm (land l (parts a b 1 (nOf b - 1)))) = ⟨land l (parts a b 1 (nOf b - 1)), [], -1, false⟩ from rfl, w]
  simp only [List.nil_append, calm_flush]
  rw [if_neg (fun h => h rfl), if_neg (fun h => h rfl), if_neg (fun h => h rfl), if_neg (fun h => h rfl), laid, land_append, ← hn1]
  simp

theorem land_parts (l : List (List UInt8)) (a : Nat) (b : List UInt8) (i : Nat) : ∀ (m j : Nat), a + i + m ≤ l.length →
    (land l (parts a b i m))[j]? = if a + i ≤ j ∧ j < a + i + m then some (pad (chunk b (j - a))) else l[j]? := by
  intro m
  induction m with
  | zero => intro j _; rw [if_neg (by omega)]; simp [parts, land]
  | succ m ih =>
    intro j h
    rw [parts_snoc, land_snoc]
    simp only
    by_cases hj : a + (i + m) = j
    · subst hj
      rw [List.getElem?_set_self (by rw [land_length]; omega), if_pos (by omega)]
      congr 3; omega
    · rw [List.getElem?_set_ne hj, ih j (by omega)]
      by_cases h2 : a + i ≤ j ∧ j < a + i + m
      · rw [if_pos h2, if_pos (by omega)]
      · rw [if_neg h2, if_neg (by omega)]

theorem laid_length (l : List (List UInt8)) (a : Nat) (gen : Int) (b : List UInt8) : (laid l a gen b).length = l.length := land_length _ _
theorem laid_head (l : List (List UInt8)) (a : Nat) (gen : Int) (b : List UInt8) (h : a < l.length) : (laid l a gen b)[a]? = some (pad (head16 (BitVec.ofInt 32 gen) b)) := by
  rw [laid, land_snoc]; simp [land_length, h]
theorem laid_get (l : List (List UInt8)) (a : Nat) (gen : Int) (b : List UInt8) (h : a + nOf b ≤ l.length) (j : Nat) (hj : j ≠ a) :
    (laid l a gen b)[j]? = if a < j ∧ j < a + nOf b then some (pad (chunk b (j - a))) else l[j]? := by
  have hn2 := nOf_eq' b
  rw [laid, land_snoc, List.getElem?_set_ne (by omega), land_parts l a b 1 _ j (by omega)]
  by_cases h2 : a < j ∧ j < a + nOf b
  · rw [if_pos h2, if_pos (by omega)]
  · rw [if_neg h2, if_neg (by omega)]

theorem pad_take {b : List UInt8} : (pad b).take b.length = b := by simp [pad]
theorem all_zero (n : Nat) : (List.replicate n (0 : UInt8)).all (· == 0) = true := by simp
theorem pad_drop {b : List UInt8} : (pad b).drop b.length = List.replicate (64 - b.length) 0 := by simp [pad]

/-- The sectors of an entry, one behind the other. -/
theorem body_chunks (now : List (List UInt8)) (a : Nat) (b : List UInt8) : ∀ m, 64 * m < b.length + 64 → (∀ j, 1 ≤ j → j ≤ m → now[a + j]? = some (pad (chunk b j))) →
    bodyAt now a m = b.take (64 * m) ++ List.replicate (64 * m - b.length) 0 := by
  intro m
  induction m with
  | zero => intro _ _; simp [bodyAt]
  | succ m ih =>
    intro hm hn
    rw [bodyAt_succ now a m _ (by rw [show a + 1 + m = a + (m + 1) by omega]; exact hn (m + 1) (by omega) (Nat.le_refl _)), ih (by omega) fun j h1 h2 => hn j h1 (by omega)]
    have z : 64 * m - b.length = 0 := by omega
    have tk : b.take (64 * (m + 1)) = b.take (64 * m) ++ chunk b (m + 1) := by
      rw [show 64 * (m + 1) = 64 * m + 64 by omega, List.take_add]; rfl
    have cl : (chunk b (m + 1)).length = min 64 (b.length - 64 * m) := by unfold chunk; simp
    rw [z, tk]
    unfold pad
    rw [cl, show 64 - min 64 (b.length - 64 * m) = 64 * (m + 1) - b.length by omega]
    simp

theorem one_at (now : List (List UInt8)) (a : Nat) (e gen : Int) (b : List UInt8) (hb : b.length ≤ 8192) (hh : now[a]? = some (pad (head16 (BitVec.ofInt 32 gen) b)))
    (he : (a : Int) < e) (hn : sizeOf b.length ≤ min e now.length - a) (hj : ∀ j, 1 ≤ j → j < nOf b → now[a + j]? = some (pad (chunk b j))) : oneOf now a e gen = some b := by
  have hn1 := nOf_eq b
  have hn2 := nOf_eq' b
  have hp : pad (head16 (BitVec.ofInt 32 gen) b) = be4 (BitVec.ofInt 32 gen) ++ (be4 (BitVec.ofNat 32 b.length) ++ (be4 (crc b) ++ (be4 (crc (head12 (BitVec.ofInt 32 gen) b)) ++ List.replicate 48 0))) := by
    unfold pad; rw [head16_length]; simp [head16, head12]
  have p0 : get4 (pad (head16 (BitVec.ofInt 32 gen) b)) = BitVec.ofInt 32 gen := by rw [hp, get4_be4]
  have p4 : get4 ((pad (head16 (BitVec.ofInt 32 gen) b)).drop 4) = BitVec.ofNat 32 b.length := by
    rw [hp, show ∀ (v : BitVec 32) r, (be4 v ++ r).drop 4 = r from fun _ _ => rfl, get4_be4]
  have p12 : get4 ((pad (head16 (BitVec.ofInt 32 gen) b)).drop 12) = crc (head12 (BitVec.ofInt 32 gen) b) := by
    rw [hp, show ∀ (u v w : BitVec 32) r, (be4 u ++ (be4 v ++ (be4 w ++ r))).drop 12 = r from fun _ _ _ _ => rfl, get4_be4]
  have t12 : (pad (head16 (BitVec.ofInt 32 gen) b)).take 12 = head12 (BitVec.ofInt 32 gen) b := by
    rw [hp]; rfl
  have t16 : (pad (head16 (BitVec.ofInt 32 gen) b)).take 16 = head16 (BitVec.ofInt 32 gen) b := by
    rw [hp]; rfl
  have d16 : (pad (head16 (BitVec.ofInt 32 gen) b)).drop 16 = List.replicate 48 0 := by
    rw [hp]; rfl
  have sz : (BitVec.ofNat 32 b.length).toNat = b.length := by simp; omega
  have bd := body_chunks now a b (nOf b - 1) (by omega) fun j h1 h2 => hj j h1 (by omega)
  rw [List.take_of_length_le (l := b) (by omega)] at bd
  have hgo := oneOf_go (now := now) (a := a) (nn := nOf b) (e := e) (gen := gen) hh (by rw [p0, t12, p12]; rintro (h | h | h); omega; exact h rfl; exact h rfl) (by rw [p4, sz]; omega) (by rw [p4, sz]; exact hn1.symm)
  rw [p4, sz] at hgo
  rw [hgo, bd, t16, d16, if_pos]
  · simp
  · refine ⟨by simp, all_zero _, ?_⟩
    simp

theorem one_not (now : List (List UInt8)) (a : Nat) (e gen : Int) (c : List UInt8) (hc : now[a]? = some c) (h : get4 c ≠ BitVec.ofInt 32 gen) : oneOf now a e gen = none := oneOf_head hc (.inr (.inl h))

theorem crc_zero12 : crc (List.replicate 12 0) ≠ 0#32 := by decide +kernel

theorem one_blank (now : List (List UInt8)) (a : Nat) (e gen : Int) (hc : now[a]? = some (List.replicate 64 0)) : oneOf now a e gen = none := by
  refine oneOf_head hc (.inr ?_)
  by_cases h : get4 (List.replicate 64 0) = BitVec.ofInt 32 gen
  · right
    rw [List.take_replicate, List.drop_replicate]
    exact crc_zero12
  · exact .inl h

/-- An entry alone is what is scanned. -/
theorem scan_one (l : List (List UInt8)) (a : Nat) (e gen : Int) (b : List UInt8) (hb : b.length ≤ 8192) (hn : sizeOf b.length ≤ min e l.length - a) (hz : l[a + nOf b]? = some (List.replicate 64 0)) :
    scanOf (laid l a gen b) e gen (l.length + 1) a = ([b], ((a + nOf b : Nat) : Int)) := by
  have hn1 := nOf_eq b
  have hn2 := nOf_eq' b
  have hlt := (List.getElem?_eq_some_iff.1 hz).1
  have h1 : oneOf (laid l a gen b) a e gen = some b := one_at _ a e gen b hb (laid_head l a gen b (by omega)) (by omega) (by rw [laid_length]; exact hn) fun j h1 h2 => by
    rw [laid_get l a gen b (by omega) (a + j) (by omega), if_pos (by omega)]
    congr 3; omega
  have h2 : oneOf (laid l a gen b) ((a + nOf b : Nat) : Int) e gen = none := one_blank _ _ e gen (by rw [laid_get l a gen b (by omega) _ (by omega), if_neg (by omega)]; exact hz)
  obtain ⟨f, hf⟩ : ∃ f, l.length = f + 1 := ⟨l.length - 1, by omega⟩
  rw [hf, scanOf_some h1, ← hn1, show ((a : Int) + (nOf b : Nat)) = ((a + nOf b : Nat) : Int) by omega, scanOf_none h2]

/-- An entry of another generation is none. -/
theorem scan_other (l : List (List UInt8)) (a : Nat) (e gen other : Int) (b : List UInt8) (ha : a < l.length) (hne : BitVec.ofInt 32 gen ≠ BitVec.ofInt 32 other) (f : Nat) :
    scanOf (laid l a gen b) e other (f + 1) a = ([], (a : Int)) := by
  refine scanOf_none (one_not _ a e other _ (laid_head l a gen b ha) ?_)
  have hp : pad (head16 (BitVec.ofInt 32 gen) b) = be4 (BitVec.ofInt 32 gen) ++ (be4 (BitVec.ofNat 32 b.length) ++ (be4 (crc b) ++ (be4 (crc (head12 (BitVec.ofInt 32 gen) b)) ++ List.replicate 48 0))) := by
    unfold pad; rw [head16_length]; simp [head16, head12]
  rw [hp, get4_be4]
  exact hne
end Go.Ax

/- What the regions of some functions hand on. Printed by a program of mine (gen.py). -/
set_option linter.unusedVariables false
namespace Go.Ax
open Go Go.Proofs
/-! ### interregnum/interregnumref01.Same -/
noncomputable def O22 (i : Nat) : Array Oper := opsOf i (bodyOf Try.f22)
noncomputable def B22_1 : Code := (.seq (.seq (.region 4 (O22 4) false) (.cond (Go.Operand.tmp 14) .skip (.exit 0))) (.seq (.block 1 (.seq (.region 6 (O22 6) true) (.cond (Go.Operand.tmp 25) (.seq (.region 7 (O22 7) false) .ret) .skip))) (.region 5 (O22 5) false)))
theorem s22 : bodyOf Try.f22 = (.seq (.region 0 (O22 0) false) (.seq (.seq (.region 1 (O22 1) false) (.cond (Go.Operand.tmp 10) (.seq (.region 2 (O22 2) false) .ret) .skip)) (.seq (.seq (.region 3 (O22 3) false) (.block 0 (.loop B22_1))) (.seq (.region 8 (O22 8) false) .ret)))) := by kernel_rfl
theorem e22 : E0 22 = some ⟨26, [4], bodyOf Try.f22⟩ := by kernel_rfl
theorem r22_0 {β : Type} (call : CallF) (md : Bool) (n : Nat) (k : Ex → List AV → Heap → Option β) (x0 x1 : AV) (h : Heap) :
    runK C0 call md 22 n (.region 0 (O22 0) false) k (st 26 [(0, x0), (1, x1)]) h =
    k .normal (st 26 [(0, x0), (1, x1)]) h
  := by kernel_rfl
theorem r22_1 {β : Type} (call : CallF) (md : Bool) (n : Nat) (k : Ex → List AV → Heap → Option β) (x0 x1 : AV) (h : Heap) :
    runK C0 call md 22 n (.region 1 (O22 1) false) k (st 26 [(0, x0), (1, x1)]) h =
    bnd (aLen tab 22 x0) fun v1 =>
    bnd (aLen tab 22 x1) fun v2 =>
    bnd (aBinC tab .neq 3 v1 v2 false) fun v3 =>
    k .normal (st 26 [(0, x0), (1, x1), (10, v3)]) h
  := by kernel_rfl
theorem r22_2 {β : Type} (call : CallF) (md : Bool) (n : Nat) (k : Ex → List AV → Heap → Option β) (x0 x1 x10 : AV) (h : Heap) :
    runK C0 call md 22 n (.region 2 (O22 2) false) k (st 26 [(0, x0), (1, x1), (10, x10)]) h =
    k .normal (st 26 [(4, (.bool false))]) h
  := by kernel_rfl
theorem r22_3 {β : Type} (call : CallF) (md : Bool) (n : Nat) (k : Ex → List AV → Heap → Option β) (x0 x1 x10 : AV) (h : Heap) :
    runK C0 call md 22 n (.region 3 (O22 3) false) k (st 26 [(0, x0), (1, x1), (10, x10)]) h =
    k .normal (st 26 [(0, x0), (1, x1), (5, (.int .i64 0))]) h
  := by kernel_rfl
theorem r22_4 {β : Type} (call : CallF) (md : Bool) (n : Nat) (k : Ex → List AV → Heap → Option β) (x0 x1 x5 : AV) (h : Heap) :
    runK C0 call md 22 n (.region 4 (O22 4) false) k (st 26 [(0, x0), (1, x1), (5, x5)]) h =
    bnd (aLen tab 22 x0) fun v1 =>
    bnd (aBinC tab .lss 3 x5 v1 false) fun v2 =>
    k .normal (st 26 [(0, x0), (1, x1), (5, x5), (14, v2)]) h
  := by kernel_rfl
theorem r22_5 {β : Type} (call : CallF) (md : Bool) (n : Nat) (k : Ex → List AV → Heap → Option β) (x0 x1 x5 x25 : AV) (h : Heap) :
    runK C0 call md 22 n (.region 5 (O22 5) false) k (st 26 [(0, x0), (1, x1), (5, x5), (25, x25)]) h =
    bnd (aBinC tab .add 3 x5 (.int .i64 1) true) fun v1 =>
    k .normal (st 26 [(0, x0), (1, x1), (5, v1)]) h
  := by kernel_rfl
theorem r22_6 {β : Type} (call : CallF) (md : Bool) (n : Nat) (k : Ex → List AV → Heap → Option β) (x0 x1 x5 x14 : AV) (h : Heap) :
    runK C0 call md 22 n (.region 6 (O22 6) true) k (st 26 [(0, x0), (1, x1), (5, x5), (14, x14)]) h =
    bnd (aIndexAddr tab 22 x0 x5) fun v1 =>
    bnd (aLoad tab 5 v1 h) fun v2 =>
    bnd (aIndexAddr tab 22 x1 x5) fun v3 =>
    bnd (aLoad tab 5 v3 h) fun v4 =>
    bnd (aBinC tab .neq 5 v2 v4 false) fun v5 =>
    k .normal (st 26 [(0, x0), (1, x1), (5, x5), (25, v5)]) h
  := by kernel_rfl
theorem r22_7 {β : Type} (call : CallF) (md : Bool) (n : Nat) (k : Ex → List AV → Heap → Option β) (x0 x1 x5 x25 : AV) (h : Heap) :
    runK C0 call md 22 n (.region 7 (O22 7) false) k (st 26 [(0, x0), (1, x1), (5, x5), (25, x25)]) h =
    k .normal (st 26 [(4, (.bool false))]) h
  := by kernel_rfl
theorem r22_8 {β : Type} (call : CallF) (md : Bool) (n : Nat) (k : Ex → List AV → Heap → Option β) (x0 x1 x5 x14 : AV) (h : Heap) :
    runK C0 call md 22 n (.region 8 (O22 8) false) k (st 26 [(0, x0), (1, x1), (5, x5), (14, x14)]) h =
    k .normal (st 26 [(4, (.bool true))]) h
  := by kernel_rfl
end Go.Ax

/- What the regions of some functions hand on. Printed by a program of mine (gen.py). -/
set_option linter.unusedVariables false
namespace Go.Ax
open Go Go.Proofs
/-! ### interregnum/interregnumref01.Rows -/
noncomputable def O16 (i : Nat) : Array Oper := opsOf i (bodyOf Try.f16)
noncomputable def B16_1 : Code := (.seq (.seq (.region 4 (O16 4) false) (.cond (Go.Operand.tmp 14) .skip (.exit 0))) (.seq (.block 1 (.seq (.region 6 (O16 6) true) (.cond (Go.Operand.tmp 26) (.seq (.region 7 (O16 7) false) .ret) .skip))) (.region 5 (O16 5) false)))
theorem s16 : bodyOf Try.f16 = (.seq (.region 0 (O16 0) false) (.seq (.seq (.region 1 (O16 1) false) (.cond (Go.Operand.tmp 10) (.seq (.region 2 (O16 2) false) .ret) .skip)) (.seq (.seq (.region 3 (O16 3) false) (.block 0 (.loop B16_1))) (.seq (.region 8 (O16 8) false) .ret)))) := by kernel_rfl
theorem e16 : E0 16 = some ⟨27, [4], bodyOf Try.f16⟩ := by kernel_rfl
theorem r16_0 {β : Type} (call : CallF) (md : Bool) (n : Nat) (k : Ex → List AV → Heap → Option β) (x0 x1 : AV) (h : Heap) :
    runK C0 call md 16 n (.region 0 (O16 0) false) k (st 27 [(0, x0), (1, x1)]) h =
    k .normal (st 27 [(0, x0), (1, x1)]) h
  := by kernel_rfl
theorem r16_1 {β : Type} (call : CallF) (md : Bool) (n : Nat) (k : Ex → List AV → Heap → Option β) (x0 x1 : AV) (h : Heap) :
    runK C0 call md 16 n (.region 1 (O16 1) false) k (st 27 [(0, x0), (1, x1)]) h =
    bnd (aLen tab 30 x0) fun v1 =>
    bnd (aLen tab 30 x1) fun v2 =>
    bnd (aBinC tab .neq 3 v1 v2 false) fun v3 =>
    k .normal (st 27 [(0, x0), (1, x1), (10, v3)]) h
  := by kernel_rfl
theorem r16_2 {β : Type} (call : CallF) (md : Bool) (n : Nat) (k : Ex → List AV → Heap → Option β) (x0 x1 x10 : AV) (h : Heap) :
    runK C0 call md 16 n (.region 2 (O16 2) false) k (st 27 [(0, x0), (1, x1), (10, x10)]) h =
    k .normal (st 27 [(4, (.bool false))]) h
  := by kernel_rfl
theorem r16_3 {β : Type} (call : CallF) (md : Bool) (n : Nat) (k : Ex → List AV → Heap → Option β) (x0 x1 x10 : AV) (h : Heap) :
    runK C0 call md 16 n (.region 3 (O16 3) false) k (st 27 [(0, x0), (1, x1), (10, x10)]) h =
    k .normal (st 27 [(0, x0), (1, x1), (5, (.int .i64 0))]) h
  := by kernel_rfl
theorem r16_4 {β : Type} (call : CallF) (md : Bool) (n : Nat) (k : Ex → List AV → Heap → Option β) (x0 x1 x5 : AV) (h : Heap) :
    runK C0 call md 16 n (.region 4 (O16 4) false) k (st 27 [(0, x0), (1, x1), (5, x5)]) h =
    bnd (aLen tab 30 x0) fun v1 =>
    bnd (aBinC tab .lss 3 x5 v1 false) fun v2 =>
    k .normal (st 27 [(0, x0), (1, x1), (5, x5), (14, v2)]) h
  := by kernel_rfl
theorem r16_5 {β : Type} (call : CallF) (md : Bool) (n : Nat) (k : Ex → List AV → Heap → Option β) (x0 x1 x5 x26 : AV) (h : Heap) :
    runK C0 call md 16 n (.region 5 (O16 5) false) k (st 27 [(0, x0), (1, x1), (5, x5), (26, x26)]) h =
    bnd (aBinC tab .add 3 x5 (.int .i64 1) true) fun v1 =>
    k .normal (st 27 [(0, x0), (1, x1), (5, v1)]) h
  := by kernel_rfl
theorem r16_6 {β : Type} (call : CallF) (md : Bool) (n : Nat) (k : Ex → List AV → Heap → Option β) (x0 x1 x5 x14 : AV) (h : Heap) :
    runK C0 call md 16 n (.region 6 (O16 6) true) k (st 27 [(0, x0), (1, x1), (5, x5), (14, x14)]) h =
    bnd (aIndexAddr tab 30 x0 x5) fun v1 =>
    bnd (aLoad tab 22 v1 h) fun v2 =>
    bnd (aIndexAddr tab 30 x1 x5) fun v3 =>
    bnd (aLoad tab 22 v3 h) fun v4 =>
    bnd2 (aCall call md (.fn (.func 22) []) [v2, v4] h) fun v5 h6 =>
    bnd (aUn .not v5) fun v7 =>
    k .normal (st 27 [(0, x0), (1, x1), (5, x5), (26, v7)]) h6
  := by kernel_rfl
theorem r16_7 {β : Type} (call : CallF) (md : Bool) (n : Nat) (k : Ex → List AV → Heap → Option β) (x0 x1 x5 x26 : AV) (h : Heap) :
    runK C0 call md 16 n (.region 7 (O16 7) false) k (st 27 [(0, x0), (1, x1), (5, x5), (26, x26)]) h =
    k .normal (st 27 [(4, (.bool false))]) h
  := by kernel_rfl
theorem r16_8 {β : Type} (call : CallF) (md : Bool) (n : Nat) (k : Ex → List AV → Heap → Option β) (x0 x1 x5 x14 : AV) (h : Heap) :
    runK C0 call md 16 n (.region 8 (O16 8) false) k (st 27 [(0, x0), (1, x1), (5, x5), (14, x14)]) h =
    k .normal (st 27 [(4, (.bool true))]) h
  := by kernel_rfl
end Go.Ax

/- The reference's Same and Rows: what they compute. -/
namespace Go.Ax
open Go Go.Proofs

theorem u8_neq (T : Tab) (t : Ty) (a b : UInt8) (c : Bool) : aBinC T .neq t (U8 a) (U8 b) c = some (.bool (decide (a ≠ b))) := by
  simp only [U8, bin_neq, ne_eq, Int.natCast_inj, UInt8.toNat_inj]

theorem drop_get {α : Type} {l : List α} {i : Nat} {a : α} (h : l[i]? = some a) : l.drop i = a :: l.drop (i + 1) := by
  obtain ⟨hl, rfl⟩ := List.getElem?_eq_some_iff.1 h
  exact List.drop_eq_getElem_cons hl

theorem same_loop {x y : AV} {l m : List UInt8} (hx : Bs x l) (hy : Bs y m) (hlm : l.length = m.length) (hl : l.length < 2 ^ 62) (call : CallF) (md : Bool) (N : Nat) (h : Heap) (K : Ex → List AV → Heap → Option (AV × Heap)) :
    ∀ (c i n : Nat), i + c = l.length → c < n →
    loopK (fun next => runK C0 call md 22 N B22_1 (seqE next K)) n (st 26 [(0, x), (1, y), (5, .int .i64 i)]) h =
      if l.drop i = m.drop i then K (.exit 0) (st 26 [(0, x), (1, y), (5, .int .i64 l.length), (14, .bool false)]) h else K .ret (st 26 [(4, .bool false)]) h := by
  intro c
  induction c with
  | zero =>
    intro i n hi hn
    obtain ⟨n, rfl⟩ : ∃ j, n = j + 1 := ⟨n - 1, by omega⟩
    obtain rfl : i = l.length := by omega
    rw [if_pos (by rw [List.drop_length, hlm, List.drop_length]), loopK_succ]
    generalize loopK (_ : (List AV → Heap → Option (AV × Heap)) → List AV → Heap → Option (AV × Heap)) n = Lp
    have e : decide (((l.length : Nat) : Int) < (l.length : Nat)) = false := decide_eq_false (by omega)
    simp -implicitDefEqProofs only [B22_1, ↓runK_seq, runK_seq, ↓runK_cond, runK_cond, ↓runK_block, runK_block, ↓runK_loop, runK_loop, ↓runK_skip, runK_skip, ↓runK_ret, runK_ret, ↓runK_exit, runK_exit, ↓seqE_n, seqE_n, ↓seqE_e, seqE_e, ↓seqE_r, seqE_r, ↓blkE_n, blkE_n, ↓blkE_e, blkE_e, ↓blkE_r, blkE_r, ↓retK_n, retK_n, ↓retK_r, retK_r, ↓aCall_fn, aCall_fn, ↓bnd_s, bnd_s, ↓bnd2_s, bnd2_s, ↓onB_t, onB_t, ↓onB_f, onB_f, ↓onT_t, onT_t, ↓aPick_t, aPick_t, ↓aPick_f, aPick_f, decide_true, decide_false, st_tmp, results1, results2, List.lookup_cons, List.lookup_nil, Nat.reduceBEq, Bool.false_eq_true, ↓reduceIte, BEq.rfl, Nat.reduceLT, Option.getD_some, Option.getD_none, ↓r22_0, r22_0, ↓r22_1, r22_1, ↓r22_2, r22_2, ↓r22_3, r22_3, ↓r22_4, r22_4, ↓r22_5, r22_5, ↓r22_6, r22_6, ↓r22_7, r22_7, ↓r22_8, r22_8, hx.len, bin_lss, e]
  | succ c ih =>
    intro i n hi hn
    obtain ⟨n, rfl⟩ : ∃ j, n = j + 1 := ⟨n - 1, by omega⟩
    have e : decide (((i : Nat) : Int) < (l.length : Nat)) = true := decide_eq_true (by omega)
    have wr : IntKind.i64.wrap ((i : Int) + 1) = ((i + 1 : Nat) : Int) := by rw [wrap_i64] <;> omega
    obtain ⟨a, ha⟩ : ∃ a, l[i]? = some a := ⟨l[i]'(by omega), List.getElem?_eq_getElem _⟩
    obtain ⟨b, hb⟩ : ∃ b, m[i]? = some b := ⟨m[i]'(by omega), List.getElem?_eq_getElem _⟩
    have ih' := ih (i + 1) n (by omega) (by omega)
    rw [drop_get ha, drop_get hb, loopK_succ]
    generalize loopK (_ : (List AV → Heap → Option (AV × Heap)) → List AV → Heap → Option (AV × Heap)) n = Lp at *
    by_cases hab : a = b
    · have e1 : decide (a ≠ b) = false := decide_eq_false fun h => h hab
      simp only [hab, List.cons.injEq, true_and]
      rw [← ih']
      simp -implicitDefEqProofs only [B22_1, ↓runK_seq, runK_seq, ↓runK_cond, runK_cond, ↓runK_block, runK_block, ↓runK_loop, runK_loop, ↓runK_skip, runK_skip, ↓runK_ret, runK_ret, ↓runK_exit, runK_exit, ↓seqE_n, seqE_n, ↓seqE_e, seqE_e, ↓seqE_r, seqE_r, ↓blkE_n, blkE_n, ↓blkE_e, blkE_e, ↓blkE_r, blkE_r, ↓retK_n, retK_n, ↓retK_r, retK_r, ↓aCall_fn, aCall_fn, ↓bnd_s, bnd_s, ↓bnd2_s, bnd2_s, ↓onB_t, onB_t, ↓onB_f, onB_f, ↓onT_t, onT_t, ↓aPick_t, aPick_t, ↓aPick_f, aPick_f, decide_true, decide_false, st_tmp, results1, results2, List.lookup_cons, List.lookup_nil, Nat.reduceBEq, Bool.false_eq_true, ↓reduceIte, BEq.rfl, Nat.reduceLT, Option.getD_some, Option.getD_none, ↓r22_0, r22_0, ↓r22_1, r22_1, ↓r22_2, r22_2, ↓r22_3, r22_3, ↓r22_4, r22_4, ↓r22_5, r22_5, ↓r22_6, r22_6, ↓r22_7, r22_7, ↓r22_8, r22_8, hx.len, bin_lss, e, hx.idx ha, hy.idx hb, load5, u8_neq, e1, bin_add, wr]
    · have e1 : decide (a ≠ b) = true := decide_eq_true hab
      rw [if_neg (by simp [hab])]
      simp -implicitDefEqProofs only [B22_1, ↓runK_seq, runK_seq, ↓runK_cond, runK_cond, ↓runK_block, runK_block, ↓runK_loop, runK_loop, ↓runK_skip, runK_skip, ↓runK_ret, runK_ret, ↓runK_exit, runK_exit, ↓seqE_n, seqE_n, ↓seqE_e, seqE_e, ↓seqE_r, seqE_r, ↓blkE_n, blkE_n, ↓blkE_e, blkE_e, ↓blkE_r, blkE_r, ↓retK_n, retK_n, ↓retK_r, retK_r, ↓aCall_fn, aCall_fn, ↓bnd_s, bnd_s, ↓bnd2_s, bnd2_s, ↓onB_t, onB_t, ↓onB_f, onB_f, ↓onT_t, onT_t, ↓aPick_t, aPick_t, ↓aPick_f, aPick_f, decide_true, decide_false, st_tmp, results1, results2, List.lookup_cons, List.lookup_nil, Nat.reduceBEq, Bool.false_eq_true, ↓reduceIte, BEq.rfl, Nat.reduceLT, Option.getD_some, Option.getD_none, ↓r22_0, r22_0, ↓r22_1, r22_1, ↓r22_2, r22_2, ↓r22_3, r22_3, ↓r22_4, r22_4, ↓r22_5, r22_5, ↓r22_6, r22_6, ↓r22_7, r22_7, ↓r22_8, r22_8, hx.len, bin_lss, e, hx.idx ha, hy.idx hb, load5, u8_neq, e1]

theorem same_ok {x y : AV} {l m : List UInt8} (hx : Bs x l) (hy : Bs y m) (hl : l.length < 2 ^ 62) (md : Bool) (h : Heap) (k : Nat) (hk : l.length + 1 < k) : exFn C0 E0 k md 22 [x, y] h = some (.bool (decide (l = m)), h) := by
  obtain ⟨k, rfl⟩ : ∃ j, k = j + 1 := ⟨k - 1, by omega⟩
  have n0 : ([x, y] ++ List.replicate (26 - [x, y].length) AV.undef) = st 26 [(0, x), (1, y)] := rfl
  refine exFn_of e22 ?_
  rw [fnK, n0, s22]
  by_cases hlm : l.length = m.length
  · have e : decide (((l.length : Nat) : Int) ≠ (m.length : Nat)) = false := decide_eq_false (by omega)
    simp -implicitDefEqProofs only [↓runK_seq, runK_seq, ↓runK_cond, runK_cond, ↓runK_block, runK_block, ↓runK_loop, runK_loop, ↓runK_skip, runK_skip, ↓runK_ret, runK_ret, ↓runK_exit, runK_exit, ↓seqE_n, seqE_n, ↓seqE_e, seqE_e, ↓seqE_r, seqE_r, ↓blkE_n, blkE_n, ↓blkE_e, blkE_e, ↓blkE_r, blkE_r, ↓retK_n, retK_n, ↓retK_r, retK_r, ↓aCall_fn, aCall_fn, ↓bnd_s, bnd_s, ↓bnd2_s, bnd2_s, ↓onB_t, onB_t, ↓onB_f, onB_f, ↓onT_t, onT_t, ↓aPick_t, aPick_t, ↓aPick_f, aPick_f, decide_true, decide_false, st_tmp, results1, results2, List.lookup_cons, List.lookup_nil, Nat.reduceBEq, Bool.false_eq_true, ↓reduceIte, BEq.rfl, Nat.reduceLT, Option.getD_some, Option.getD_none, ↓r22_0, r22_0, ↓r22_1, r22_1, ↓r22_2, r22_2, ↓r22_3, r22_3, ↓r22_4, r22_4, ↓r22_5, r22_5, ↓r22_6, r22_6, ↓r22_7, r22_7, ↓r22_8, r22_8, hx.len, hy.len, bin_neq, e]
    rw [show AV.int .i64 0 = .int .i64 ((0 : Nat) : Int) from rfl, same_loop hx hy hlm hl _ md k h _ l.length 0 k (by omega) (by omega), List.drop_zero, List.drop_zero]
    by_cases h2 : l = m
    · rw [if_pos h2, decide_eq_true h2]
      simp -implicitDefEqProofs only [↓runK_seq, runK_seq, ↓runK_cond, runK_cond, ↓runK_block, runK_block, ↓runK_loop, runK_loop, ↓runK_skip, runK_skip, ↓runK_ret, runK_ret, ↓runK_exit, runK_exit, ↓seqE_n, seqE_n, ↓seqE_e, seqE_e, ↓seqE_r, seqE_r, ↓blkE_n, blkE_n, ↓blkE_e, blkE_e, ↓blkE_r, blkE_r, ↓retK_n, retK_n, ↓retK_r, retK_r, ↓aCall_fn, aCall_fn, ↓bnd_s, bnd_s, ↓bnd2_s, bnd2_s, ↓onB_t, onB_t, ↓onB_f, onB_f, ↓onT_t, onT_t, ↓aPick_t, aPick_t, ↓aPick_f, aPick_f, decide_true, decide_false, st_tmp, results1, results2, List.lookup_cons, List.lookup_nil, Nat.reduceBEq, Bool.false_eq_true, ↓reduceIte, BEq.rfl, Nat.reduceLT, Option.getD_some, Option.getD_none, ↓r22_0, r22_0, ↓r22_1, r22_1, ↓r22_2, r22_2, ↓r22_3, r22_3, ↓r22_4, r22_4, ↓r22_5, r22_5, ↓r22_6, r22_6, ↓r22_7, r22_7, ↓r22_8, r22_8]
    · rw [if_neg h2, decide_eq_false h2]
      simp -implicitDefEqProofs only [↓runK_seq, runK_seq, ↓runK_cond, runK_cond, ↓runK_block, runK_block, ↓runK_loop, runK_loop, ↓runK_skip, runK_skip, ↓runK_ret, runK_ret, ↓runK_exit, runK_exit, ↓seqE_n, seqE_n, ↓seqE_e, seqE_e, ↓seqE_r, seqE_r, ↓blkE_n, blkE_n, ↓blkE_e, blkE_e, ↓blkE_r, blkE_r, ↓retK_n, retK_n, ↓retK_r, retK_r, ↓aCall_fn, aCall_fn, ↓bnd_s, bnd_s, ↓bnd2_s, bnd2_s, ↓onB_t, onB_t, ↓onB_f, onB_f, ↓onT_t, onT_t, ↓aPick_t, aPick_t, ↓aPick_f, aPick_f, decide_true, decide_false, st_tmp, results1, results2, List.lookup_cons, List.lookup_nil, Nat.reduceBEq, Bool.false_eq_true, ↓reduceIte, BEq.rfl, Nat.reduceLT, Option.getD_some, Option.getD_none, ↓r22_0, r22_0, ↓r22_1, r22_1, ↓r22_2, r22_2, ↓r22_3, r22_3, ↓r22_4, r22_4, ↓r22_5, r22_5, ↓r22_6, r22_6, ↓r22_7, r22_7, ↓r22_8, r22_8]
  · have e : decide (((l.length : Nat) : Int) ≠ (m.length : Nat)) = true := decide_eq_true (by omega)
    rw [decide_eq_false (show ¬ l = m from fun e => hlm (by rw [e]))]
    simp -implicitDefEqProofs only [↓runK_seq, runK_seq, ↓runK_cond, runK_cond, ↓runK_block, runK_block, ↓runK_loop, runK_loop, ↓runK_skip, runK_skip, ↓runK_ret, runK_ret, ↓runK_exit, runK_exit, ↓seqE_n, seqE_n, ↓seqE_e, seqE_e, ↓seqE_r, seqE_r, ↓blkE_n, blkE_n, ↓blkE_e, blkE_e, ↓blkE_r, blkE_r, ↓retK_n, retK_n, ↓retK_r, retK_r, ↓aCall_fn, aCall_fn, ↓bnd_s, bnd_s, ↓bnd2_s, bnd2_s, ↓onB_t, onB_t, ↓onB_f, onB_f, ↓onT_t, onT_t, ↓aPick_t, aPick_t, ↓aPick_f, aPick_f, decide_true, decide_false, st_tmp, results1, results2, List.lookup_cons, List.lookup_nil, Nat.reduceBEq, Bool.false_eq_true, ↓reduceIte, BEq.rfl, Nat.reduceLT, Option.getD_some, Option.getD_none, ↓r22_0, r22_0, ↓r22_1, r22_1, ↓r22_2, r22_2, ↓r22_3, r22_3, ↓r22_4, r22_4, ↓r22_5, r22_5, ↓r22_6, r22_6, ↓r22_7, r22_7, ↓r22_8, r22_8, hx.len, hy.len, bin_neq, e]

/-- A slice of byte slices. -/
def Rw (x : AV) (ls : List (List UInt8)) : Prop := (x = .nils ∧ ls = []) ∨ ∃ vs k, x = .vsl 22 vs k ∧ BsL vs ls
theorem ApR.rw {S : Obs} {h : Heap} {x : AV} {ls : List (List UInt8)} (a : ApR S h x ls) : Rw x ls := by
  obtain ⟨vs, ⟨rfl, rfl⟩ | ⟨k, rfl, -⟩, hf⟩ := a
  · cases hf; exact .inl ⟨rfl, rfl⟩
  · exact .inr ⟨vs, k, rfl, hf⟩
theorem Rw.len {x : AV} {ls : List (List UInt8)} (hx : Rw x ls) : aLen tab 30 x = some (.int .i64 ls.length) := by
  rcases hx with ⟨rfl, rfl⟩ | ⟨vs, k, rfl, hf⟩
  · exact len_nils30
  · rw [len30, hf.length]
theorem BsL.get : ∀ {vs : List AV} {ls : List (List UInt8)}, BsL vs ls → ∀ {i : Nat} {l : List UInt8}, ls[i]? = some l → ∃ v, vs[i]? = some v ∧ Bs v l
  | _, _, .nil, i, l, h => by simp at h
  | _, _, .cons a t, 0, l, h => by simp at h; subst h; exact ⟨_, rfl, a⟩
  | _, _, .cons a t, i + 1, l, h => by simpa using t.get (i := i) (by simpa using h)
theorem Rw.idx {x : AV} {ls : List (List UInt8)} (hx : Rw x ls) {i : Nat} {l : List UInt8} (hi : ls[i]? = some l) : ∃ v, aIndexAddr tab 30 x (.int .i64 i) = some (.vptr 22 v) ∧ Bs v l := by
  rcases hx with ⟨rfl, rfl⟩ | ⟨vs, k, rfl, hf⟩
  · simp at hi
  · obtain ⟨v, hv, hb⟩ := hf.get hi
    exact ⟨v, by rw [idx30, hv]; rfl, hb⟩

theorem rows_loop {x y : AV} {l m : List (List UInt8)} (hx : Rw x l) (hy : Rw y m) (hlm : l.length = m.length) (hl : l.length < 2 ^ 62) (B : Nat) (hB : ∀ b ∈ l, b.length < B) (hB2 : B < 2 ^ 62) (N : Nat) (hN : B + 1 < N) (md : Bool) (h : Heap) (K : Ex → List AV → Heap → Option (AV × Heap)) :
    ∀ (c i n : Nat), i + c = l.length → c < n →
    loopK (fun next => runK C0 (exFn C0 E0 N) md 16 N B16_1 (seqE next K)) n (st 27 [(0, x), (1, y), (5, .int .i64 i)]) h =
      if l.drop i = m.drop i then K (.exit 0) (st 27 [(0, x), (1, y), (5, .int .i64 l.length), (14, .bool false)]) h else K .ret (st 27 [(4, .bool false)]) h := by
  intro c
  induction c with
  | zero =>
    intro i n hi hn
    obtain ⟨n, rfl⟩ : ∃ j, n = j + 1 := ⟨n - 1, by omega⟩
    obtain rfl : i = l.length := by omega
    rw [if_pos (by rw [List.drop_length, hlm, List.drop_length]), loopK_succ]
    generalize loopK (_ : (List AV → Heap → Option (AV × Heap)) → List AV → Heap → Option (AV × Heap)) n = Lp
    have e : decide (((l.length : Nat) : Int) < (l.length : Nat)) = false := decide_eq_false (by omega)
    simp -implicitDefEqProofs only [B16_1, ↓runK_seq, runK_seq, ↓runK_cond, runK_cond, ↓runK_block, runK_block, ↓runK_loop, runK_loop, ↓runK_skip, runK_skip, ↓runK_ret, runK_ret, ↓runK_exit, runK_exit, ↓seqE_n, seqE_n, ↓seqE_e, seqE_e, ↓seqE_r, seqE_r, ↓blkE_n, blkE_n, ↓blkE_e, blkE_e, ↓blkE_r, blkE_r, ↓retK_n, retK_n, ↓retK_r, retK_r, ↓aCall_fn, aCall_fn, ↓bnd_s, bnd_s, ↓bnd2_s, bnd2_s, ↓onB_t, onB_t, ↓onB_f, onB_f, ↓onT_t, onT_t, ↓aPick_t, aPick_t, ↓aPick_f, aPick_f, decide_true, decide_false, st_tmp, results1, results2, List.lookup_cons, List.lookup_nil, Nat.reduceBEq, Bool.false_eq_true, ↓reduceIte, BEq.rfl, Nat.reduceLT, Option.getD_some, Option.getD_none, ↓r16_0, r16_0, ↓r16_1, r16_1, ↓r16_2, r16_2, ↓r16_3, r16_3, ↓r16_4, r16_4, ↓r16_5, r16_5, ↓r16_6, r16_6, ↓r16_7, r16_7, ↓r16_8, r16_8, hx.len, bin_lss, e]
  | succ c ih =>
    intro i n hi hn
    obtain ⟨n, rfl⟩ : ∃ j, n = j + 1 := ⟨n - 1, by omega⟩
    have e : decide (((i : Nat) : Int) < (l.length : Nat)) = true := decide_eq_true (by omega)
    have wr : IntKind.i64.wrap ((i : Int) + 1) = ((i + 1 : Nat) : Int) := by rw [wrap_i64] <;> omega
    obtain ⟨a, ha⟩ : ∃ a, l[i]? = some a := ⟨l[i]'(by omega), List.getElem?_eq_getElem _⟩
    obtain ⟨b, hb⟩ : ∃ b, m[i]? = some b := ⟨m[i]'(by omega), List.getElem?_eq_getElem _⟩
    obtain ⟨u, hu, bu⟩ := hx.idx ha
    obtain ⟨v, hv, bv⟩ := hy.idx hb
    have haB := hB a (List.mem_of_getElem? ha)
    have sm := same_ok bu bv (by omega) md h N (by omega)
    have ih' := ih (i + 1) n (by omega) (by omega)
    rw [drop_get ha, drop_get hb, loopK_succ]
    generalize loopK (_ : (List AV → Heap → Option (AV × Heap)) → List AV → Heap → Option (AV × Heap)) n = Lp at *
    by_cases hab : a = b
    · have e1 : decide (a = b) = true := decide_eq_true hab
      rw [e1] at sm
      simp only [hab, List.cons.injEq, true_and]
      rw [← ih']
      simp -implicitDefEqProofs only [B16_1, ↓runK_seq, runK_seq, ↓runK_cond, runK_cond, ↓runK_block, runK_block, ↓runK_loop, runK_loop, ↓runK_skip, runK_skip, ↓runK_ret, runK_ret, ↓runK_exit, runK_exit, ↓seqE_n, seqE_n, ↓seqE_e, seqE_e, ↓seqE_r, seqE_r, ↓blkE_n, blkE_n, ↓blkE_e, blkE_e, ↓blkE_r, blkE_r, ↓retK_n, retK_n, ↓retK_r, retK_r, ↓aCall_fn, aCall_fn, ↓bnd_s, bnd_s, ↓bnd2_s, bnd2_s, ↓onB_t, onB_t, ↓onB_f, onB_f, ↓onT_t, onT_t, ↓aPick_t, aPick_t, ↓aPick_f, aPick_f, decide_true, decide_false, st_tmp, results1, results2, List.lookup_cons, List.lookup_nil, Nat.reduceBEq, Bool.false_eq_true, ↓reduceIte, BEq.rfl, Nat.reduceLT, Option.getD_some, Option.getD_none, ↓r16_0, r16_0, ↓r16_1, r16_1, ↓r16_2, r16_2, ↓r16_3, r16_3, ↓r16_4, r16_4, ↓r16_5, r16_5, ↓r16_6, r16_6, ↓r16_7, r16_7, ↓r16_8, r16_8, hx.len, bin_lss, e, hu, hv, load22, sm, un_not, Bool.not_true, bin_add, wr]
    · have e1 : decide (a = b) = false := decide_eq_false hab
      rw [e1] at sm
      rw [if_neg (by simp [hab])]
      simp -implicitDefEqProofs only [B16_1, ↓runK_seq, runK_seq, ↓runK_cond, runK_cond, ↓runK_block, runK_block, ↓runK_loop, runK_loop, ↓runK_skip, runK_skip, ↓runK_ret, runK_ret, ↓runK_exit, runK_exit, ↓seqE_n, seqE_n, ↓seqE_e, seqE_e, ↓seqE_r, seqE_r, ↓blkE_n, blkE_n, ↓blkE_e, blkE_e, ↓blkE_r, blkE_r, ↓retK_n, retK_n, ↓retK_r, retK_r, ↓aCall_fn, aCall_fn, ↓bnd_s, bnd_s, ↓bnd2_s, bnd2_s, ↓onB_t, onB_t, ↓onB_f, onB_f, ↓onT_t, onT_t, ↓aPick_t, aPick_t, ↓aPick_f, aPick_f, decide_true, decide_false, st_tmp, results1, results2, List.lookup_cons, List.lookup_nil, Nat.reduceBEq, Bool.false_eq_true, ↓reduceIte, BEq.rfl, Nat.reduceLT, Option.getD_some, Option.getD_none, ↓r16_0, r16_0, ↓r16_1, r16_1, ↓r16_2, r16_2, ↓r16_3, r16_3, ↓r16_4, r16_4, ↓r16_5, r16_5, ↓r16_6, r16_6, ↓r16_7, r16_7, ↓r16_8, r16_8, hx.len, bin_lss, e, hu, hv, load22, sm, un_not, Bool.not_false]

theorem rows_ok {x y : AV} {l m : List (List UInt8)} (hx : Rw x l) (hy : Rw y m) (hl : l.length < 2 ^ 62) (B : Nat) (hB : ∀ b ∈ l, b.length < B) (hB2 : B < 2 ^ 62) (md : Bool) (h : Heap) (k : Nat) (hk : l.length + B + 3 < k) :
    exFn C0 E0 k md 16 [x, y] h = some (.bool (decide (l = m)), h) := by
  obtain ⟨k, rfl⟩ : ∃ j, k = j + 1 := ⟨k - 1, by omega⟩
  have n0 : ([x, y] ++ List.replicate (27 - [x, y].length) AV.undef) = st 27 [(0, x), (1, y)] := rfl
  refine exFn_of e16 ?_
  rw [fnK, n0, s16]
  by_cases hlm : l.length = m.length
  · have e : decide (((l.length : Nat) : Int) ≠ (m.length : Nat)) = false := decide_eq_false (by omega)
    simp -implicitDefEqProofs only [↓runK_seq, runK_seq, ↓runK_cond, runK_cond, ↓runK_block, runK_block, ↓runK_loop, runK_loop, ↓runK_skip, runK_skip, ↓runK_ret, runK_ret, ↓runK_exit, runK_exit, ↓seqE_n, seqE_n, ↓seqE_e, seqE_e, ↓seqE_r, seqE_r, ↓blkE_n, blkE_n, ↓blkE_e, blkE_e, ↓blkE_r, blkE_r, ↓retK_n, retK_n, ↓retK_r, retK_r, ↓aCall_fn, aCall_fn, ↓bnd_s, bnd_s, ↓bnd2_s, bnd2_s, ↓onB_t, onB_t, ↓onB_f, onB_f, ↓onT_t, onT_t, ↓aPick_t, aPick_t, ↓aPick_f, aPick_f, decide_true, decide_false, st_tmp, results1, results2, List.lookup_cons, List.lookup_nil, Nat.reduceBEq, Bool.false_eq_true, ↓reduceIte, BEq.rfl, Nat.reduceLT, Option.getD_some, Option.getD_none, ↓r16_0, r16_0, ↓r16_1, r16_1, ↓r16_2, r16_2, ↓r16_3, r16_3, ↓r16_4, r16_4, ↓r16_5, r16_5, ↓r16_6, r16_6, ↓r16_7, r16_7, ↓r16_8, r16_8, hx.len, hy.len, bin_neq, e]
    rw [show AV.int .i64 0 = .int .i64 ((0 : Nat) : Int) from rfl, rows_loop hx hy hlm hl B hB hB2 k (by omega) md h _ l.length 0 k (by omega) (by omega), List.drop_zero, List.drop_zero]
    by_cases h2 : l = m
    · rw [if_pos h2, decide_eq_true h2]
      simp -implicitDefEqProofs only [↓runK_seq, runK_seq, ↓runK_cond, runK_cond, ↓runK_block, runK_block, ↓runK_loop, runK_loop, ↓runK_skip, runK_skip, ↓runK_ret, runK_ret, ↓runK_exit, runK_exit, ↓seqE_n, seqE_n, ↓seqE_e, seqE_e, ↓seqE_r, seqE_r, ↓blkE_n, blkE_n, ↓blkE_e, blkE_e, ↓blkE_r, blkE_r, ↓retK_n, retK_n, ↓retK_r, retK_r, ↓aCall_fn, aCall_fn, ↓bnd_s, bnd_s, ↓bnd2_s, bnd2_s, ↓onB_t, onB_t, ↓onB_f, onB_f, ↓onT_t, onT_t, ↓aPick_t, aPick_t, ↓aPick_f, aPick_f, decide_true, decide_false, st_tmp, results1, results2, List.lookup_cons, List.lookup_nil, Nat.reduceBEq, Bool.false_eq_true, ↓reduceIte, BEq.rfl, Nat.reduceLT, Option.getD_some, Option.getD_none, ↓r16_0, r16_0, ↓r16_1, r16_1, ↓r16_2, r16_2, ↓r16_3, r16_3, ↓r16_4, r16_4, ↓r16_5, r16_5, ↓r16_6, r16_6, ↓r16_7, r16_7, ↓r16_8, r16_8]
    · rw [if_neg h2, decide_eq_false h2]
      simp -implicitDefEqProofs only [↓runK_seq, runK_seq, ↓runK_cond, runK_cond, ↓runK_block, runK_block, ↓runK_loop, runK_loop, ↓runK_skip, runK_skip, ↓runK_ret, runK_ret, ↓runK_exit, runK_exit, ↓seqE_n, seqE_n, ↓seqE_e, seqE_e, ↓seqE_r, seqE_r, ↓blkE_n, blkE_n, ↓blkE_e, blkE_e, ↓blkE_r, blkE_r, ↓retK_n, retK_n, ↓retK_r, retK_r, ↓aCall_fn, aCall_fn, ↓bnd_s, bnd_s, ↓bnd2_s, bnd2_s, ↓onB_t, onB_t, ↓onB_f, onB_f, ↓onT_t, onT_t, ↓aPick_t, aPick_t, ↓aPick_f, aPick_f, decide_true, decide_false, st_tmp, results1, results2, List.lookup_cons, List.lookup_nil, Nat.reduceBEq, Bool.false_eq_true, ↓reduceIte, BEq.rfl, Nat.reduceLT, Option.getD_some, Option.getD_none, ↓r16_0, r16_0, ↓r16_1, r16_1, ↓r16_2, r16_2, ↓r16_3, r16_3, ↓r16_4, r16_4, ↓r16_5, r16_5, ↓r16_6, r16_6, ↓r16_7, r16_7, ↓r16_8, r16_8]
  · have e : decide (((l.length : Nat) : Int) ≠ (m.length : Nat)) = true := decide_eq_true (by omega)
    rw [decide_eq_false (show ¬ l = m from fun e => hlm (by rw [e]))]
    simp -implicitDefEqProofs only [↓runK_seq, runK_seq, ↓runK_cond, runK_cond, ↓runK_block, runK_block, ↓runK_loop, runK_loop, ↓runK_skip, runK_skip, ↓runK_ret, runK_ret, ↓runK_exit, runK_exit, ↓seqE_n, seqE_n, ↓seqE_e, seqE_e, ↓seqE_r, seqE_r, ↓blkE_n, blkE_n, ↓blkE_e, blkE_e, ↓blkE_r, blkE_r, ↓retK_n, retK_n, ↓retK_r, retK_r, ↓aCall_fn, aCall_fn, ↓bnd_s, bnd_s, ↓bnd2_s, bnd2_s, ↓onB_t, onB_t, ↓onB_f, onB_f, ↓onT_t, onT_t, ↓aPick_t, aPick_t, ↓aPick_f, aPick_f, decide_true, decide_false, st_tmp, results1, results2, List.lookup_cons, List.lookup_nil, Nat.reduceBEq, Bool.false_eq_true, ↓reduceIte, BEq.rfl, Nat.reduceLT, Option.getD_some, Option.getD_none, ↓r16_0, r16_0, ↓r16_1, r16_1, ↓r16_2, r16_2, ↓r16_3, r16_3, ↓r16_4, r16_4, ↓r16_5, r16_5, ↓r16_6, r16_6, ↓r16_7, r16_7, ↓r16_8, r16_8, hx.len, hy.len, bin_neq, e]
end Go.Ax

/- What the regions of some functions hand on. Printed by a program of mine (gen.py). -/
set_option linter.unusedVariables false
namespace Go.Ax
open Go Go.Proofs
/-! ### interregnum/interregnumlaw03.answers -/
noncomputable def O12 (i : Nat) : Array Oper := opsOf i (bodyOf Try.f12)
theorem s12 : bodyOf Try.f12 = (.seq (.region 0 (O12 0) false) (.seq (.region 1 (O12 1) false) (.seq (.region 2 (O12 2) false) (.seq (.region 3 (O12 3) false) (.seq (.region 4 (O12 4) false) .ret))))) := by kernel_rfl
theorem e12 : E0 12 = some ⟨45, [0], bodyOf Try.f12⟩ := by kernel_rfl
theorem r12_0 {β : Type} (call : CallF) (md : Bool) (n : Nat) (k : Ex → List AV → Heap → Option β) (h : Heap) :
    runK C0 call md 12 n (.region 0 (O12 0) false) k (st 45 []) h =
    k .normal (st 45 []) h
  := by kernel_rfl
theorem r12_1 {β : Type} (call : CallF) (md : Bool) (n : Nat) (k : Ex → List AV → Heap → Option β) (h : Heap) :
    runK C0 call md 12 n (.region 1 (O12 1) false) k (st 45 []) h =
    bnd2 (aCall call md (.fn (.func 13) []) [(.int .i64 6)] h) fun v1 h2 =>
    k .normal (st 45 [(1, v1)]) h2
  := by kernel_rfl
theorem r12_2 {β : Type} (call : CallF) (md : Bool) (n : Nat) (k : Ex → List AV → Heap → Option β) (x1 : AV) (h : Heap) :
    runK C0 call md 12 n (.region 2 (O12 2) false) k (st 45 [(1, x1)]) h =
    bnd2 (aRowLit tab 22 2 [(0, (.int .u8 104)), (1, (.int .u8 105))] h) fun v1 h2 =>
    bnd (aConv tab 22 22 v1 h2) fun v3 =>
    bnd2 (freezeA v3 h2) fun v4 h5 =>
    bnd2 (aCall call md (.fn (.func 14) []) [x1, (.int .i64 1), (.int .i64 6), (.int .i64 7), v4] h5) fun v6 h7 =>
    bnd (aExtract v6 0) fun v8 =>
    bnd (aExtract v6 1) fun v9 =>
    k .normal (st 45 [(1, x1), (2, v8), (3, v9)]) h7
  := by kernel_rfl
theorem r12_3 {β : Type} (call : CallF) (md : Bool) (n : Nat) (k : Ex → List AV → Heap → Option β) (x1 x2 x3 : AV) (h : Heap) :
    runK C0 call md 12 n (.region 3 (O12 3) false) k (st 45 [(1, x1), (2, x2), (3, x3)]) h =
    bnd2 (aCall call md (.fn (.func 15) []) [x1, (.int .i64 1), (.int .i64 6), (.int .i64 7)] h) fun v1 h2 =>
    bnd (aExtract v1 0) fun v3 =>
    bnd (aExtract v1 1) fun v4 =>
    k .normal (st 45 [(2, x2), (3, x3), (4, v3), (5, v4)]) h2
  := by kernel_rfl
def J12_4_10 {β : Type} (call : CallF) (md : Bool) (k : Ex → List AV → Heap → Option β) (x41 x43 : AV) (h : Heap) : Option β :=
    bnd (aPick x41 x43 (.bool false)) fun v1 =>
    k .normal (st 45 [(0, v1)]) h

theorem j12_4_10 {β : Type} (call : CallF) (md : Bool) (k : Ex → List AV → Heap → Option β) (x2 x3 x4 x5 x19 x20 x21 x22 x23 x24 x25 x26 x27 x28 x29 x30 x31 x32 x33 x34 x35 x36 x37 x38 x39 x40 x41 x42 x43 : AV) (h : Heap) :
    opsK C0 call md 12 (O12 4) ((O12 4).toList.drop 25) (st 45 [(2, x2), (3, x3), (4, x4), (5, x5), (19, x19), (20, x20), (21, x21), (22, x22), (23, x23), (24, x24), (25, x25), (26, x26), (27, x27), (28, x28), (29, x29), (30, x30), (31, x31), (32, x32), (33, x33), (34, x34), (35, x35), (36, x36), (37, x37), (38, x38), (39, x39), (40, x40), (41, x41), (42, x42), (43, x43)]) h (fun tm h => k .normal (clr (C0.keep 12 4) tm) h) = J12_4_10 call md k x41 x43 h := by kernel_rfl
def J12_4_9 {β : Type} (call : CallF) (md : Bool) (k : Ex → List AV → Heap → Option β) (x41 : AV) (h : Heap) : Option β :=
    onB x41 (
      bnd2 (aCall call md (.fn (.func 45) []) [(.int .i64 2)] h) fun v3 h4 =>
      bnd (aBinC tab .eql 3 v3 (.int .i64 2) true) fun v5 =>
      J12_4_10 call md k x41 v5 h4) (
      J12_4_10 call md k x41 .undef h)

theorem g12_4_9 {β : Type} (call : CallF) (md : Bool) (kk : List AV → Heap → Option β) (x2 x3 x4 x5 x19 x20 x21 x22 x23 x24 x25 x26 x27 x28 x29 x30 x31 x32 x33 x34 x35 x36 x37 x38 x39 x40 x41 : AV) (h : Heap) :
    opsK C0 call md 12 (O12 4) (((O12 4).toList.drop 23).take 2) (st 45 [(2, x2), (3, x3), (4, x4), (5, x5), (19, x19), (20, x20), (21, x21), (22, x22), (23, x23), (24, x24), (25, x25), (26, x26), (27, x27), (28, x28), (29, x29), (30, x30), (31, x31), (32, x32), (33, x33), (34, x34), (35, x35), (36, x36), (37, x37), (38, x38), (39, x39), (40, x40), (41, x41)]) h kk =
    onB x41 (
      bnd2 (aCall call md (.fn (.func 45) []) [(.int .i64 2)] h) fun v6 h7 =>
      bnd (aBinC tab .eql 3 v6 (.int .i64 2) true) fun v8 =>
      kk (st 45 [(2, x2), (3, x3), (4, x4), (5, x5), (19, x19), (20, x20), (21, x21), (22, x22), (23, x23), (24, x24), (25, x25), (26, x26), (27, x27), (28, x28), (29, x29), (30, x30), (31, x31), (32, x32), (33, x33), (34, x34), (35, x35), (36, x36), (37, x37), (38, x38), (39, x39), (40, x40), (41, x41), (42, v6), (43, v8)]) h7) (
      kk (st 45 [(2, x2), (3, x3), (4, x4), (5, x5), (19, x19), (20, x20), (21, x21), (22, x22), (23, x23), (24, x24), (25, x25), (26, x26), (27, x27), (28, x28), (29, x29), (30, x30), (31, x31), (32, x32), (33, x33), (34, x34), (35, x35), (36, x36), (37, x37), (38, x38), (39, x39), (40, x40), (41, x41), (42, .undef), (43, .undef)]) h)
  := by cases x41 with | bool b => (cases b <;> kernel_rfl) | _ => kernel_rfl
theorem j12_4_9 {β : Type} (call : CallF) (md : Bool) (k : Ex → List AV → Heap → Option β) (x2 x3 x4 x5 x19 x20 x21 x22 x23 x24 x25 x26 x27 x28 x29 x30 x31 x32 x33 x34 x35 x36 x37 x38 x39 x40 x41 : AV) (h : Heap) :
    opsK C0 call md 12 (O12 4) ((O12 4).toList.drop 23) (st 45 [(2, x2), (3, x3), (4, x4), (5, x5), (19, x19), (20, x20), (21, x21), (22, x22), (23, x23), (24, x24), (25, x25), (26, x26), (27, x27), (28, x28), (29, x29), (30, x30), (31, x31), (32, x32), (33, x33), (34, x34), (35, x35), (36, x36), (37, x37), (38, x38), (39, x39), (40, x40), (41, x41)]) h (fun tm h => k .normal (clr (C0.keep 12 4) tm) h) = J12_4_9 call md k x41 h := by
  have e : ((O12 4).toList.drop 23) = ((O12 4).toList.drop 23).take 2 ++ (O12 4).toList.drop 25 := by kernel_rfl
  rw [show opsK C0 call md 12 (O12 4) ((O12 4).toList.drop 23) = opsK C0 call md 12 (O12 4) (((O12 4).toList.drop 23).take 2 ++ (O12 4).toList.drop 25) from congrArg _ e]
  rw [opsK_append, g12_4_9]
  simp only [j12_4_10]
  rfl
def J12_4_8 {β : Type} (call : CallF) (md : Bool) (k : Ex → List AV → Heap → Option β) (x37 x39 : AV) (h : Heap) : Option β :=
    bnd (aPick x37 x39 (.bool false)) fun v9 =>
    J12_4_9 call md k v9 h

theorem g12_4_8 {β : Type} (call : CallF) (md : Bool) (kk : List AV → Heap → Option β) (x2 x3 x4 x5 x19 x20 x21 x22 x23 x24 x25 x26 x27 x28 x29 x30 x31 x32 x33 x34 x35 x36 x37 x38 x39 : AV) (h : Heap) :
    opsK C0 call md 12 (O12 4) (((O12 4).toList.drop 21).take 2) (st 45 [(2, x2), (3, x3), (4, x4), (5, x5), (19, x19), (20, x20), (21, x21), (22, x22), (23, x23), (24, x24), (25, x25), (26, x26), (27, x27), (28, x28), (29, x29), (30, x30), (31, x31), (32, x32), (33, x33), (34, x34), (35, x35), (36, x36), (37, x37), (38, x38), (39, x39)]) h kk =
    bnd (aPick x37 x39 (.bool false)) fun v10 =>
    kk (st 45 [(2, x2), (3, x3), (4, x4), (5, x5), (19, x19), (20, x20), (21, x21), (22, x22), (23, x23), (24, x24), (25, x25), (26, x26), (27, x27), (28, x28), (29, x29), (30, x30), (31, x31), (32, x32), (33, x33), (34, x34), (35, x35), (36, x36), (37, x37), (38, x38), (39, x39), (40, v10), (41, v10)]) h
  := by kernel_rfl
theorem j12_4_8 {β : Type} (call : CallF) (md : Bool) (k : Ex → List AV → Heap → Option β) (x2 x3 x4 x5 x19 x20 x21 x22 x23 x24 x25 x26 x27 x28 x29 x30 x31 x32 x33 x34 x35 x36 x37 x38 x39 : AV) (h : Heap) :
    opsK C0 call md 12 (O12 4) ((O12 4).toList.drop 21) (st 45 [(2, x2), (3, x3), (4, x4), (5, x5), (19, x19), (20, x20), (21, x21), (22, x22), (23, x23), (24, x24), (25, x25), (26, x26), (27, x27), (28, x28), (29, x29), (30, x30), (31, x31), (32, x32), (33, x33), (34, x34), (35, x35), (36, x36), (37, x37), (38, x38), (39, x39)]) h (fun tm h => k .normal (clr (C0.keep 12 4) tm) h) = J12_4_8 call md k x37 x39 h := by
  have e : ((O12 4).toList.drop 21) = ((O12 4).toList.drop 21).take 2 ++ (O12 4).toList.drop 23 := by kernel_rfl
  rw [show opsK C0 call md 12 (O12 4) ((O12 4).toList.drop 21) = opsK C0 call md 12 (O12 4) (((O12 4).toList.drop 21).take 2 ++ (O12 4).toList.drop 23) from congrArg _ e]
  rw [opsK_append, g12_4_8]
  simp only [j12_4_9]
  rfl
def J12_4_7 {β : Type} (call : CallF) (md : Bool) (k : Ex → List AV → Heap → Option β) (x5 x37 : AV) (h : Heap) : Option β :=
    onB x37 (
      bnd (aBinC tab .eql 3 x5 (.int .i64 3) true) fun v11 =>
      J12_4_8 call md k x37 v11 h) (
      J12_4_8 call md k x37 .undef h)

theorem g12_4_7 {β : Type} (call : CallF) (md : Bool) (kk : List AV → Heap → Option β) (x2 x3 x4 x5 x19 x20 x21 x22 x23 x24 x25 x26 x27 x28 x29 x30 x31 x32 x33 x34 x35 x36 x37 : AV) (h : Heap) :
    opsK C0 call md 12 (O12 4) (((O12 4).toList.drop 19).take 2) (st 45 [(2, x2), (3, x3), (4, x4), (5, x5), (19, x19), (20, x20), (21, x21), (22, x22), (23, x23), (24, x24), (25, x25), (26, x26), (27, x27), (28, x28), (29, x29), (30, x30), (31, x31), (32, x32), (33, x33), (34, x34), (35, x35), (36, x36), (37, x37)]) h kk =
    onB x37 (
      bnd (aBinC tab .eql 3 x5 (.int .i64 3) true) fun v12 =>
      kk (st 45 [(2, x2), (3, x3), (4, x4), (5, x5), (19, x19), (20, x20), (21, x21), (22, x22), (23, x23), (24, x24), (25, x25), (26, x26), (27, x27), (28, x28), (29, x29), (30, x30), (31, x31), (32, x32), (33, x33), (34, x34), (35, x35), (36, x36), (37, x37), (38, x5), (39, v12)]) h) (
      kk (st 45 [(2, x2), (3, x3), (4, x4), (5, x5), (19, x19), (20, x20), (21, x21), (22, x22), (23, x23), (24, x24), (25, x25), (26, x26), (27, x27), (28, x28), (29, x29), (30, x30), (31, x31), (32, x32), (33, x33), (34, x34), (35, x35), (36, x36), (37, x37), (38, .undef), (39, .undef)]) h)
  := by cases x37 with | bool b => (cases b <;> kernel_rfl) | _ => kernel_rfl
theorem j12_4_7 {β : Type} (call : CallF) (md : Bool) (k : Ex → List AV → Heap → Option β) (x2 x3 x4 x5 x19 x20 x21 x22 x23 x24 x25 x26 x27 x28 x29 x30 x31 x32 x33 x34 x35 x36 x37 : AV) (h : Heap) :
    opsK C0 call md 12 (O12 4) ((O12 4).toList.drop 19) (st 45 [(2, x2), (3, x3), (4, x4), (5, x5), (19, x19), (20, x20), (21, x21), (22, x22), (23, x23), (24, x24), (25, x25), (26, x26), (27, x27), (28, x28), (29, x29), (30, x30), (31, x31), (32, x32), (33, x33), (34, x34), (35, x35), (36, x36), (37, x37)]) h (fun tm h => k .normal (clr (C0.keep 12 4) tm) h) = J12_4_7 call md k x5 x37 h := by
  have e : ((O12 4).toList.drop 19) = ((O12 4).toList.drop 19).take 2 ++ (O12 4).toList.drop 21 := by kernel_rfl
  rw [show opsK C0 call md 12 (O12 4) ((O12 4).toList.drop 19) = opsK C0 call md 12 (O12 4) (((O12 4).toList.drop 19).take 2 ++ (O12 4).toList.drop 21) from congrArg _ e]
  rw [opsK_append, g12_4_7]
  simp only [j12_4_8]
  rfl
def J12_4_6 {β : Type} (call : CallF) (md : Bool) (k : Ex → List AV → Heap → Option β) (x5 x30 x35 : AV) (h : Heap) : Option β :=
    bnd (aPick x30 x35 (.bool false)) fun v13 =>
    J12_4_7 call md k x5 v13 h

theorem g12_4_6 {β : Type} (call : CallF) (md : Bool) (kk : List AV → Heap → Option β) (x2 x3 x4 x5 x19 x20 x21 x22 x23 x24 x25 x26 x27 x28 x29 x30 x31 x32 x33 x34 x35 : AV) (h : Heap) :
    opsK C0 call md 12 (O12 4) (((O12 4).toList.drop 17).take 2) (st 45 [(2, x2), (3, x3), (4, x4), (5, x5), (19, x19), (20, x20), (21, x21), (22, x22), (23, x23), (24, x24), (25, x25), (26, x26), (27, x27), (28, x28), (29, x29), (30, x30), (31, x31), (32, x32), (33, x33), (34, x34), (35, x35)]) h kk =
    bnd (aPick x30 x35 (.bool false)) fun v14 =>
    kk (st 45 [(2, x2), (3, x3), (4, x4), (5, x5), (19, x19), (20, x20), (21, x21), (22, x22), (23, x23), (24, x24), (25, x25), (26, x26), (27, x27), (28, x28), (29, x29), (30, x30), (31, x31), (32, x32), (33, x33), (34, x34), (35, x35), (36, v14), (37, v14)]) h
  := by kernel_rfl
theorem j12_4_6 {β : Type} (call : CallF) (md : Bool) (k : Ex → List AV → Heap → Option β) (x2 x3 x4 x5 x19 x20 x21 x22 x23 x24 x25 x26 x27 x28 x29 x30 x31 x32 x33 x34 x35 : AV) (h : Heap) :
    opsK C0 call md 12 (O12 4) ((O12 4).toList.drop 17) (st 45 [(2, x2), (3, x3), (4, x4), (5, x5), (19, x19), (20, x20), (21, x21), (22, x22), (23, x23), (24, x24), (25, x25), (26, x26), (27, x27), (28, x28), (29, x29), (30, x30), (31, x31), (32, x32), (33, x33), (34, x34), (35, x35)]) h (fun tm h => k .normal (clr (C0.keep 12 4) tm) h) = J12_4_6 call md k x5 x30 x35 h := by
  have e : ((O12 4).toList.drop 17) = ((O12 4).toList.drop 17).take 2 ++ (O12 4).toList.drop 19 := by kernel_rfl
  rw [show opsK C0 call md 12 (O12 4) ((O12 4).toList.drop 17) = opsK C0 call md 12 (O12 4) (((O12 4).toList.drop 17).take 2 ++ (O12 4).toList.drop 19) from congrArg _ e]
  rw [opsK_append, g12_4_6]
  simp only [j12_4_7]
  rfl
def J12_4_5 {β : Type} (call : CallF) (md : Bool) (k : Ex → List AV → Heap → Option β) (x4 x5 x30 : AV) (h : Heap) : Option β :=
    onB x30 (
      bnd (aIndexAddr tab 30 x4 (.int .i64 0)) fun v15 =>
      bnd (aLoad tab 22 v15 h) fun v16 =>
      bnd (aConv tab 22 9 v16 h) fun v17 =>
      bnd (aBinC tab .eql 9 v17 (liftC (Go.Value.string {data := #[104, 105]})) true) fun v18 =>
      J12_4_6 call md k x5 x30 v18 h) (
      J12_4_6 call md k x5 x30 .undef h)

theorem g12_4_5 {β : Type} (call : CallF) (md : Bool) (kk : List AV → Heap → Option β) (x2 x3 x4 x5 x19 x20 x21 x22 x23 x24 x25 x26 x27 x28 x29 x30 : AV) (h : Heap) :
    opsK C0 call md 12 (O12 4) (((O12 4).toList.drop 12).take 5) (st 45 [(2, x2), (3, x3), (4, x4), (5, x5), (19, x19), (20, x20), (21, x21), (22, x22), (23, x23), (24, x24), (25, x25), (26, x26), (27, x27), (28, x28), (29, x29), (30, x30)]) h kk =
    onB x30 (
      bnd (aIndexAddr tab 30 x4 (.int .i64 0)) fun v19 =>
      bnd (aLoad tab 22 v19 h) fun v20 =>
      bnd (aConv tab 22 9 v20 h) fun v21 =>
      bnd (aBinC tab .eql 9 v21 (liftC (Go.Value.string {data := #[104, 105]})) true) fun v22 =>
      kk (st 45 [(2, x2), (3, x3), (4, x4), (5, x5), (19, x19), (20, x20), (21, x21), (22, x22), (23, x23), (24, x24), (25, x25), (26, x26), (27, x27), (28, x28), (29, x29), (30, x30), (31, x4), (32, v19), (33, v20), (34, v21), (35, v22)]) h) (
      kk (st 45 [(2, x2), (3, x3), (4, x4), (5, x5), (19, x19), (20, x20), (21, x21), (22, x22), (23, x23), (24, x24), (25, x25), (26, x26), (27, x27), (28, x28), (29, x29), (30, x30), (31, .undef), (32, .undef), (33, .undef), (34, .undef), (35, .undef)]) h)
  := by cases x30 with | bool b => (cases b <;> kernel_rfl) | _ => kernel_rfl
theorem j12_4_5 {β : Type} (call : CallF) (md : Bool) (k : Ex → List AV → Heap → Option β) (x2 x3 x4 x5 x19 x20 x21 x22 x23 x24 x25 x26 x27 x28 x29 x30 : AV) (h : Heap) :
    opsK C0 call md 12 (O12 4) ((O12 4).toList.drop 12) (st 45 [(2, x2), (3, x3), (4, x4), (5, x5), (19, x19), (20, x20), (21, x21), (22, x22), (23, x23), (24, x24), (25, x25), (26, x26), (27, x27), (28, x28), (29, x29), (30, x30)]) h (fun tm h => k .normal (clr (C0.keep 12 4) tm) h) = J12_4_5 call md k x4 x5 x30 h := by
  have e : ((O12 4).toList.drop 12) = ((O12 4).toList.drop 12).take 5 ++ (O12 4).toList.drop 17 := by kernel_rfl
  rw [show opsK C0 call md 12 (O12 4) ((O12 4).toList.drop 12) = opsK C0 call md 12 (O12 4) (((O12 4).toList.drop 12).take 5 ++ (O12 4).toList.drop 17) from congrArg _ e]
  rw [opsK_append, g12_4_5]
  simp only [j12_4_6]
  rfl
def J12_4_4 {β : Type} (call : CallF) (md : Bool) (k : Ex → List AV → Heap → Option β) (x4 x5 x25 x28 : AV) (h : Heap) : Option β :=
    bnd (aPick x25 x28 (.bool false)) fun v23 =>
    J12_4_5 call md k x4 x5 v23 h

theorem g12_4_4 {β : Type} (call : CallF) (md : Bool) (kk : List AV → Heap → Option β) (x2 x3 x4 x5 x19 x20 x21 x22 x23 x24 x25 x26 x27 x28 : AV) (h : Heap) :
    opsK C0 call md 12 (O12 4) (((O12 4).toList.drop 10).take 2) (st 45 [(2, x2), (3, x3), (4, x4), (5, x5), (19, x19), (20, x20), (21, x21), (22, x22), (23, x23), (24, x24), (25, x25), (26, x26), (27, x27), (28, x28)]) h kk =
    bnd (aPick x25 x28 (.bool false)) fun v24 =>
    kk (st 45 [(2, x2), (3, x3), (4, x4), (5, x5), (19, x19), (20, x20), (21, x21), (22, x22), (23, x23), (24, x24), (25, x25), (26, x26), (27, x27), (28, x28), (29, v24), (30, v24)]) h
  := by kernel_rfl
theorem j12_4_4 {β : Type} (call : CallF) (md : Bool) (k : Ex → List AV → Heap → Option β) (x2 x3 x4 x5 x19 x20 x21 x22 x23 x24 x25 x26 x27 x28 : AV) (h : Heap) :
    opsK C0 call md 12 (O12 4) ((O12 4).toList.drop 10) (st 45 [(2, x2), (3, x3), (4, x4), (5, x5), (19, x19), (20, x20), (21, x21), (22, x22), (23, x23), (24, x24), (25, x25), (26, x26), (27, x27), (28, x28)]) h (fun tm h => k .normal (clr (C0.keep 12 4) tm) h) = J12_4_4 call md k x4 x5 x25 x28 h := by
  have e : ((O12 4).toList.drop 10) = ((O12 4).toList.drop 10).take 2 ++ (O12 4).toList.drop 12 := by kernel_rfl
  rw [show opsK C0 call md 12 (O12 4) ((O12 4).toList.drop 10) = opsK C0 call md 12 (O12 4) (((O12 4).toList.drop 10).take 2 ++ (O12 4).toList.drop 12) from congrArg _ e]
  rw [opsK_append, g12_4_4]
  simp only [j12_4_5]
  rfl
def J12_4_3 {β : Type} (call : CallF) (md : Bool) (k : Ex → List AV → Heap → Option β) (x4 x5 x25 : AV) (h : Heap) : Option β :=
    onB x25 (
      bnd (aLen tab 30 x4) fun v25 =>
      bnd (aBinC tab .eql 3 v25 (.int .i64 1) true) fun v26 =>
      J12_4_4 call md k x4 x5 x25 v26 h) (
      J12_4_4 call md k x4 x5 x25 .undef h)

theorem g12_4_3 {β : Type} (call : CallF) (md : Bool) (kk : List AV → Heap → Option β) (x2 x3 x4 x5 x19 x20 x21 x22 x23 x24 x25 : AV) (h : Heap) :
    opsK C0 call md 12 (O12 4) (((O12 4).toList.drop 7).take 3) (st 45 [(2, x2), (3, x3), (4, x4), (5, x5), (19, x19), (20, x20), (21, x21), (22, x22), (23, x23), (24, x24), (25, x25)]) h kk =
    onB x25 (
      bnd (aLen tab 30 x4) fun v27 =>
      bnd (aBinC tab .eql 3 v27 (.int .i64 1) true) fun v28 =>
      kk (st 45 [(2, x2), (3, x3), (4, x4), (5, x5), (19, x19), (20, x20), (21, x21), (22, x22), (23, x23), (24, x24), (25, x25), (26, x4), (27, v27), (28, v28)]) h) (
      kk (st 45 [(2, x2), (3, x3), (4, x4), (5, x5), (19, x19), (20, x20), (21, x21), (22, x22), (23, x23), (24, x24), (25, x25), (26, .undef), (27, .undef), (28, .undef)]) h)
  := by cases x25 with | bool b => (cases b <;> kernel_rfl) | _ => kernel_rfl
theorem j12_4_3 {β : Type} (call : CallF) (md : Bool) (k : Ex → List AV → Heap → Option β) (x2 x3 x4 x5 x19 x20 x21 x22 x23 x24 x25 : AV) (h : Heap) :
    opsK C0 call md 12 (O12 4) ((O12 4).toList.drop 7) (st 45 [(2, x2), (3, x3), (4, x4), (5, x5), (19, x19), (20, x20), (21, x21), (22, x22), (23, x23), (24, x24), (25, x25)]) h (fun tm h => k .normal (clr (C0.keep 12 4) tm) h) = J12_4_3 call md k x4 x5 x25 h := by
  have e : ((O12 4).toList.drop 7) = ((O12 4).toList.drop 7).take 3 ++ (O12 4).toList.drop 10 := by kernel_rfl
  rw [show opsK C0 call md 12 (O12 4) ((O12 4).toList.drop 7) = opsK C0 call md 12 (O12 4) (((O12 4).toList.drop 7).take 3 ++ (O12 4).toList.drop 10) from congrArg _ e]
  rw [opsK_append, g12_4_3]
  simp only [j12_4_4]
  rfl
def J12_4_2 {β : Type} (call : CallF) (md : Bool) (k : Ex → List AV → Heap → Option β) (x4 x5 x21 x23 : AV) (h : Heap) : Option β :=
    bnd (aPick x21 x23 (.bool false)) fun v29 =>
    J12_4_3 call md k x4 x5 v29 h

theorem g12_4_2 {β : Type} (call : CallF) (md : Bool) (kk : List AV → Heap → Option β) (x2 x3 x4 x5 x19 x20 x21 x22 x23 : AV) (h : Heap) :
    opsK C0 call md 12 (O12 4) (((O12 4).toList.drop 5).take 2) (st 45 [(2, x2), (3, x3), (4, x4), (5, x5), (19, x19), (20, x20), (21, x21), (22, x22), (23, x23)]) h kk =
    bnd (aPick x21 x23 (.bool false)) fun v30 =>
    kk (st 45 [(2, x2), (3, x3), (4, x4), (5, x5), (19, x19), (20, x20), (21, x21), (22, x22), (23, x23), (24, v30), (25, v30)]) h
  := by kernel_rfl
theorem j12_4_2 {β : Type} (call : CallF) (md : Bool) (k : Ex → List AV → Heap → Option β) (x2 x3 x4 x5 x19 x20 x21 x22 x23 : AV) (h : Heap) :
    opsK C0 call md 12 (O12 4) ((O12 4).toList.drop 5) (st 45 [(2, x2), (3, x3), (4, x4), (5, x5), (19, x19), (20, x20), (21, x21), (22, x22), (23, x23)]) h (fun tm h => k .normal (clr (C0.keep 12 4) tm) h) = J12_4_2 call md k x4 x5 x21 x23 h := by
  have e : ((O12 4).toList.drop 5) = ((O12 4).toList.drop 5).take 2 ++ (O12 4).toList.drop 7 := by kernel_rfl
  rw [show opsK C0 call md 12 (O12 4) ((O12 4).toList.drop 5) = opsK C0 call md 12 (O12 4) (((O12 4).toList.drop 5).take 2 ++ (O12 4).toList.drop 7) from congrArg _ e]
  rw [opsK_append, g12_4_2]
  simp only [j12_4_3]
  rfl
def J12_4_1 {β : Type} (call : CallF) (md : Bool) (k : Ex → List AV → Heap → Option β) (x3 x4 x5 x21 : AV) (h : Heap) : Option β :=
    onB x21 (
      bnd (aBinC tab .eql 27 x3 (.int .i64 0) true) fun v31 =>
      J12_4_2 call md k x4 x5 x21 v31 h) (
      J12_4_2 call md k x4 x5 x21 .undef h)

theorem g12_4_1 {β : Type} (call : CallF) (md : Bool) (kk : List AV → Heap → Option β) (x2 x3 x4 x5 x19 x20 x21 : AV) (h : Heap) :
    opsK C0 call md 12 (O12 4) (((O12 4).toList.drop 3).take 2) (st 45 [(2, x2), (3, x3), (4, x4), (5, x5), (19, x19), (20, x20), (21, x21)]) h kk =
    onB x21 (
      bnd (aBinC tab .eql 27 x3 (.int .i64 0) true) fun v32 =>
      kk (st 45 [(2, x2), (3, x3), (4, x4), (5, x5), (19, x19), (20, x20), (21, x21), (22, x3), (23, v32)]) h) (
      kk (st 45 [(2, x2), (3, x3), (4, x4), (5, x5), (19, x19), (20, x20), (21, x21), (22, .undef), (23, .undef)]) h)
  := by cases x21 with | bool b => (cases b <;> kernel_rfl) | _ => kernel_rfl
theorem j12_4_1 {β : Type} (call : CallF) (md : Bool) (k : Ex → List AV → Heap → Option β) (x2 x3 x4 x5 x19 x20 x21 : AV) (h : Heap) :
    opsK C0 call md 12 (O12 4) ((O12 4).toList.drop 3) (st 45 [(2, x2), (3, x3), (4, x4), (5, x5), (19, x19), (20, x20), (21, x21)]) h (fun tm h => k .normal (clr (C0.keep 12 4) tm) h) = J12_4_1 call md k x3 x4 x5 x21 h := by
  have e : ((O12 4).toList.drop 3) = ((O12 4).toList.drop 3).take 2 ++ (O12 4).toList.drop 5 := by kernel_rfl
  rw [show opsK C0 call md 12 (O12 4) ((O12 4).toList.drop 3) = opsK C0 call md 12 (O12 4) (((O12 4).toList.drop 3).take 2 ++ (O12 4).toList.drop 5) from congrArg _ e]
  rw [opsK_append, g12_4_1]
  simp only [j12_4_2]
  rfl
def J12_4_0 {β : Type} (call : CallF) (md : Bool) (k : Ex → List AV → Heap → Option β) (x2 x3 x4 x5 : AV) (h : Heap) : Option β :=
    bnd (aBinC tab .eql 3 x2 (.int .i64 3) true) fun v33 =>
    J12_4_1 call md k x3 x4 x5 v33 h

theorem g12_4_0 {β : Type} (call : CallF) (md : Bool) (kk : List AV → Heap → Option β) (x2 x3 x4 x5 : AV) (h : Heap) :
    opsK C0 call md 12 (O12 4) ((O12 4).toList.take 3) (st 45 [(2, x2), (3, x3), (4, x4), (5, x5)]) h kk =
    bnd (aBinC tab .eql 3 x2 (.int .i64 3) true) fun v34 =>
    kk (st 45 [(2, x2), (3, x3), (4, x4), (5, x5), (19, x2), (20, v34), (21, v34)]) h
  := by kernel_rfl
theorem j12_4_0 {β : Type} (call : CallF) (md : Bool) (k : Ex → List AV → Heap → Option β) (x2 x3 x4 x5 : AV) (h : Heap) :
    opsK C0 call md 12 (O12 4) (O12 4).toList (st 45 [(2, x2), (3, x3), (4, x4), (5, x5)]) h (fun tm h => k .normal (clr (C0.keep 12 4) tm) h) = J12_4_0 call md k x2 x3 x4 x5 h := by
  have e : (O12 4).toList = (O12 4).toList.take 3 ++ (O12 4).toList.drop 3 := by kernel_rfl
  rw [show opsK C0 call md 12 (O12 4) (O12 4).toList = opsK C0 call md 12 (O12 4) ((O12 4).toList.take 3 ++ (O12 4).toList.drop 3) from congrArg _ e]
  rw [opsK_append, g12_4_0]
  simp only [j12_4_1]
  rfl
theorem r12_4 {β : Type} (call : CallF) (md : Bool) (n : Nat) (k : Ex → List AV → Heap → Option β) (x2 x3 x4 x5 : AV) (h : Heap) :
    runK C0 call md 12 n (.region 4 (O12 4) false) k (st 45 [(2, x2), (3, x3), (4, x4), (5, x5)]) h = J12_4_0 call md k x2 x3 x4 x5 h := (runK_region C0 call md 12 n 4 (O12 4) k (st 45 [(2, x2), (3, x3), (4, x4), (5, x5)]) h).trans (j12_4_0 call md k x2 x3 x4 x5 h)
end Go.Ax

/- law 3's answers: true. -/
namespace Go.Ax
open Go Go.Proofs

theorem new_calm (n : Int) : Dk.new n = Calm (List.replicate (newN n) (List.replicate 64 0)) := rfl

theorem rowlit_hi (h : Heap) : aRowLit tab 22 2 [(0, .int .u8 104), (1, .int .u8 105)] h = some (.msl h.length [] 5 0 2, h ++ [.row 5 [U8 104, U8 105]]) := by kernel_rfl
theorem conv_hi (h : Heap) : aConv tab 22 22 (.msl h.length [] 5 0 2) (h ++ [.row 5 [U8 104, U8 105]]) = some (.msl h.length [] 5 0 2) := by
  simp [aConv]
theorem frz_hi (h : Heap) : freezeA (.msl h.length [] 5 0 2) (h ++ [.row 5 [U8 104, U8 105]]) = some (.vsl 5 [U8 104, U8 105] .none, h ++ [.dead]) := by
  simp [freezeA]

theorem idx30_0 {S : Obs} {h : Heap} {x : AV} {l : List UInt8} (a : ApR S h x [l]) : ∃ v, aIndexAddr tab 30 x (.int .i64 0) = some (.vptr 22 v) ∧ Bs v l := a.rw.idx (i := 0) rfl

def hi : List UInt8 := [104, 105]
theorem hi_bs : Bs (.vsl 5 [U8 104, U8 105] .none) hi := .inr ⟨_, rfl⟩
theorem str_hi : (⟨hi.toArray⟩ : ByteArray).toList = hi := by rw [ByteArray.toList_eq]
theorem lift_hi : liftC (Go.Value.string {data := #[104, 105]}) = .str ⟨hi.toArray⟩ := rfl

theorem lay_hi : (Dk.new 6).lay 1 6 7 hi = ((3, 0), Calm (laid (List.replicate 6 (List.replicate 64 0)) 1 7 hi)) := by
  have := lay_calm (List.replicate 6 (List.replicate 64 0)) 1 6 7 hi (by decide) (by decide) (by decide) (by decide) (by decide)
  exact this
theorem scan_hi : (Calm (laid (List.replicate 6 (List.replicate 64 0)) 1 7 hi)).scan 1 6 7 = ([hi], 3) := by
  have := scan_one (List.replicate 6 (List.replicate 64 0)) 1 6 7 hi (by decide) (by decide) (by rfl)
  rw [Dk.scan, show (Calm (laid (List.replicate 6 (List.replicate 64 0)) 1 7 hi)).lasts.length + 1 = (List.replicate 6 (List.replicate 64 (0 : UInt8))).length + 1 from by rw [show (Calm (laid (List.replicate 6 (List.replicate 64 0)) 1 7 hi)).lasts = laid (List.replicate 6 (List.replicate 64 0)) 1 7 hi from rfl, laid_length]]
  exact this

theorem answers_ok (h : Heap) (k : Nat) (hk : 9100 < k) : ∃ h', exFn C0 E0 (k + 1) false 12 [] h = some (.bool true, h') ∧ Keep (From h.length) h h' := by
  obtain ⟨k, rfl⟩ : ∃ j, k = j + 1 := ⟨k - 1, by omega⟩
  have up := Up.fresh h
  obtain ⟨p, r, h1, n1, D1, k1⟩ := new_ok 6 h false k
  have k2 : Keep (From h1.length) h1 (h1 ++ [.dead]) := Keep.app h1 _ (Up.fresh h1)
  have up2 := (up.keep k1).keep k2
  obtain ⟨h3, l1, D3, k3⟩ := lay_ok (D1.fresh k2) up2 (by decide) (by decide) 1 6 7 (by decide) hi_bs (by decide) k (by simp [Dk.new]; omega)
  rw [lay_hi] at l1 D3
  obtain ⟨x, h4, s1, s2, k4⟩ := scan_ok D3 (by decide) 1 6 7 k (by simp [Calm]; omega)
  rw [scan_hi] at s1 s2
  obtain ⟨v, iv, bv⟩ := idx30_0 s2
  have kk := (((k1.trans (k2.up (up.keep k1))).trans k3).fresh k4 up)
  have sz := size_ok 2 (by decide) false h4 k
  have c1 : decide (sizeOf 2 = 2) = true := by decide
  have c2 : decide ((3 : Int) = 3) = true := by decide
  have c3 : decide ((0 : Int) = 0) = true := by decide
  have c4 : decide ((([hi] : List (List UInt8)).length : Int) = 1) = true := by decide
  have c5 : (hi == hi) = true := by decide
  refine ⟨h4, exFn_of e12 ?_, kk⟩
  rw [fnK, show (([] : List AV) ++ List.replicate (45 - ([] : List AV).length) AV.undef) = st 45 [] from rfl, s12]
  simp -implicitDefEqProofs only [↓runK_seq, runK_seq, ↓runK_cond, runK_cond, ↓runK_block, runK_block, ↓runK_loop, runK_loop, ↓runK_skip, runK_skip, ↓runK_ret, runK_ret, ↓runK_exit, runK_exit, ↓seqE_n, seqE_n, ↓seqE_e, seqE_e, ↓seqE_r, seqE_r, ↓blkE_n, blkE_n, ↓blkE_e, blkE_e, ↓blkE_r, blkE_r, ↓retK_n, retK_n, ↓retK_r, retK_r, ↓aCall_fn, aCall_fn, ↓bnd_s, bnd_s, ↓bnd2_s, bnd2_s, ↓onB_t, onB_t, ↓onB_f, onB_f, ↓onT_t, onT_t, ↓aPick_t, aPick_t, ↓aPick_f, aPick_f, decide_true, decide_false, st_tmp, results1, results2, List.lookup_cons, List.lookup_nil, Nat.reduceBEq, Bool.false_eq_true, ↓reduceIte, BEq.rfl, Nat.reduceLT, Option.getD_some, Option.getD_none, ↓r12_0, r12_0, ↓r12_1, r12_1, ↓r12_2, r12_2, ↓r12_3, r12_3, ↓r12_4, r12_4, J12_4_0, J12_4_1, J12_4_2, J12_4_3, J12_4_4, J12_4_5, J12_4_6, J12_4_7, J12_4_8, J12_4_9, J12_4_10, n1, rowlit_hi, conv_hi, frz_hi, l1, ext0, ext1, s1, bin_eql, c2, c3, s2.rw.len, c4, iv, load22, bv.str, lift_hi, str_eql, str_hi, c5, sz, c1]
end Go.Ax

/- What the regions of some functions hand on. Printed by a program of mine (gen.py). -/
set_option linter.unusedVariables false
namespace Go.Ax
open Go Go.Proofs
/-! ### interregnum/region.Clean -/
noncomputable def O19 (i : Nat) : Array Oper := opsOf i (bodyOf Try.f19)
noncomputable def B19_1 : Code := (.seq (.seq (.region 3 (O19 3) false) (.cond (Go.Operand.tmp 19) .skip (.exit 0))) (.seq (.block 1 (.seq (.region 5 (O19 5) false) (.seq (.region 6 (O19 6) false) (.cond (Go.Operand.tmp 30) (.seq (.seq (.region 7 (O19 7) false) (.seq (.region 8 (O19 8) false) (.cond (Go.Operand.tmp 35) (.seq (.region 9 (O19 9) false) .ret) .skip))) (.region 10 (O19 10) false)) .skip)))) (.region 4 (O19 4) false)))
theorem s19 : bodyOf Try.f19 = (.seq (.region 0 (O19 0) false) (.seq (.region 1 (O19 1) false) (.seq (.seq (.region 2 (O19 2) false) (.block 0 (.loop B19_1))) (.seq (.seq (.region 11 (O19 11) false) (.cond (Go.Operand.tmp 38) (.seq (.region 12 (O19 12) false) .ret) .skip)) (.seq (.region 13 (O19 13) false) .ret))))) := by kernel_rfl
theorem e19 : E0 19 = some ⟨41, [6], bodyOf Try.f19⟩ := by kernel_rfl
theorem r19_0 {β : Type} (call : CallF) (md : Bool) (n : Nat) (k : Ex → List AV → Heap → Option β) (x0 x1 x2 : AV) (h : Heap) :
    runK C0 call md 19 n (.region 0 (O19 0) false) k (st 41 [(0, x0), (1, x1), (2, x2)]) h =
    k .normal (st 41 [(0, x0), (1, x1), (2, x2)]) h
  := by kernel_rfl
theorem r19_1 {β : Type} (call : CallF) (md : Bool) (n : Nat) (k : Ex → List AV → Heap → Option β) (x0 x1 x2 : AV) (h : Heap) :
    runK C0 call md 19 n (.region 1 (O19 1) false) k (st 41 [(0, x0), (1, x1), (2, x2)]) h =
    k .normal (st 41 [(0, x0), (1, x1), (2, x2), (7, (.bool false))]) h
  := by kernel_rfl
theorem r19_2 {β : Type} (call : CallF) (md : Bool) (n : Nat) (k : Ex → List AV → Heap → Option β) (x0 x1 x2 x7 : AV) (h : Heap) :
    runK C0 call md 19 n (.region 2 (O19 2) false) k (st 41 [(0, x0), (1, x1), (2, x2), (7, x7)]) h =
    bnd (aMax [x1, (.int .i64 0)]) fun v1 =>
    k .normal (st 41 [(0, x0), (2, x2), (7, x7), (8, v1)]) h
  := by kernel_rfl
theorem r19_3 {β : Type} (call : CallF) (md : Bool) (n : Nat) (k : Ex → List AV → Heap → Option β) (x0 x2 x7 x8 : AV) (h : Heap) :
    runK C0 call md 19 n (.region 3 (O19 3) false) k (st 41 [(0, x0), (2, x2), (7, x7), (8, x8)]) h =
    bnd2 (aCall call md (.fn (.func 46) []) [x0] h) fun v1 h2 =>
    bnd (aMin [x2, v1]) fun v3 =>
    bnd (aBinC tab .lss 3 x8 v3 false) fun v4 =>
    k .normal (st 41 [(0, x0), (2, x2), (7, x7), (8, x8), (19, v4)]) h2
  := by kernel_rfl
theorem r19_4a {β : Type} (call : CallF) (md : Bool) (n : Nat) (k : Ex → List AV → Heap → Option β) (x0 x2 x7 x8 x30 : AV) (h : Heap) :
    runK C0 call md 19 n (.region 4 (O19 4) false) k (st 41 [(0, x0), (2, x2), (7, x7), (8, x8), (30, x30)]) h =
    bnd (aBinC tab .add 3 x8 (.int .i64 1) true) fun v1 =>
    k .normal (st 41 [(0, x0), (2, x2), (7, x7), (8, v1)]) h
  := by kernel_rfl
theorem r19_4b {β : Type} (call : CallF) (md : Bool) (n : Nat) (k : Ex → List AV → Heap → Option β) (x0 x2 x7 x8 : AV) (h : Heap) :
    runK C0 call md 19 n (.region 4 (O19 4) false) k (st 41 [(0, x0), (2, x2), (7, x7), (8, x8)]) h =
    bnd (aBinC tab .add 3 x8 (.int .i64 1) true) fun v1 =>
    k .normal (st 41 [(0, x0), (2, x2), (7, x7), (8, v1)]) h
  := by kernel_rfl
theorem r19_5 {β : Type} (call : CallF) (md : Bool) (n : Nat) (k : Ex → List AV → Heap → Option β) (x0 x2 x7 x8 x19 : AV) (h : Heap) :
    runK C0 call md 19 n (.region 5 (O19 5) false) k (st 41 [(0, x0), (2, x2), (7, x7), (8, x8), (19, x19)]) h =
    bnd2 (aCall call md (.fn (.func 38) []) [x0, x8] h) fun v1 h2 =>
    bnd (aExtract v1 0) fun v3 =>
    bnd (aExtract v1 1) fun v4 =>
    k .normal (st 41 [(0, x0), (2, x2), (7, x7), (8, x8), (9, v3)]) h2
  := by kernel_rfl
theorem r19_6 {β : Type} (call : CallF) (md : Bool) (n : Nat) (k : Ex → List AV → Heap → Option β) (x0 x2 x7 x8 x9 : AV) (h : Heap) :
    runK C0 call md 19 n (.region 6 (O19 6) false) k (st 41 [(0, x0), (2, x2), (7, x7), (8, x8), (9, x9)]) h =
    bnd2 (aCall call md (.fn (.func 51) []) [x9] h) fun v1 h2 =>
    bnd (aUn .not v1) fun v3 =>
    k .normal (st 41 [(0, x0), (2, x2), (7, x7), (8, x8), (30, v3)]) h2
  := by kernel_rfl
theorem r19_7 {β : Type} (call : CallF) (md : Bool) (n : Nat) (k : Ex → List AV → Heap → Option β) (x0 x2 x7 x8 x30 : AV) (h : Heap) :
    runK C0 call md 19 n (.region 7 (O19 7) false) k (st 41 [(0, x0), (2, x2), (7, x7), (8, x8), (30, x30)]) h =
    bnd2 (aCall call md (.fn (.func 17) []) [x0, x8, .nils] h) fun v1 h2 =>
    k .normal (st 41 [(0, x0), (2, x2), (8, x8), (11, v1)]) h2
  := by kernel_rfl
theorem r19_8 {β : Type} (call : CallF) (md : Bool) (n : Nat) (k : Ex → List AV → Heap → Option β) (x0 x2 x8 x11 : AV) (h : Heap) :
    runK C0 call md 19 n (.region 8 (O19 8) false) k (st 41 [(0, x0), (2, x2), (8, x8), (11, x11)]) h =
    bnd (aBinC tab .neq 27 x11 (.int .i64 0) true) fun v1 =>
    k .normal (st 41 [(0, x0), (2, x2), (8, x8), (11, x11), (35, v1)]) h
  := by kernel_rfl
theorem r19_9 {β : Type} (call : CallF) (md : Bool) (n : Nat) (k : Ex → List AV → Heap → Option β) (x0 x2 x8 x11 x35 : AV) (h : Heap) :
    runK C0 call md 19 n (.region 9 (O19 9) false) k (st 41 [(0, x0), (2, x2), (8, x8), (11, x11), (35, x35)]) h =
    k .normal (st 41 [(6, x11)]) h
  := by kernel_rfl
theorem r19_10 {β : Type} (call : CallF) (md : Bool) (n : Nat) (k : Ex → List AV → Heap → Option β) (x0 x2 x8 x11 x35 : AV) (h : Heap) :
    runK C0 call md 19 n (.region 10 (O19 10) false) k (st 41 [(0, x0), (2, x2), (8, x8), (11, x11), (35, x35)]) h =
    k .normal (st 41 [(0, x0), (2, x2), (7, (.bool true)), (8, x8)]) h
  := by kernel_rfl
theorem r19_11 {β : Type} (call : CallF) (md : Bool) (n : Nat) (k : Ex → List AV → Heap → Option β) (x0 x2 x7 x8 x19 : AV) (h : Heap) :
    runK C0 call md 19 n (.region 11 (O19 11) false) k (st 41 [(0, x0), (2, x2), (7, x7), (8, x8), (19, x19)]) h =
    bnd (aUn .not x7) fun v1 =>
    k .normal (st 41 [(0, x0), (38, v1)]) h
  := by kernel_rfl
theorem r19_12 {β : Type} (call : CallF) (md : Bool) (n : Nat) (k : Ex → List AV → Heap → Option β) (x0 x38 : AV) (h : Heap) :
    runK C0 call md 19 n (.region 12 (O19 12) false) k (st 41 [(0, x0), (38, x38)]) h =
    k .normal (st 41 [(6, (.int .i64 0))]) h
  := by kernel_rfl
theorem r19_13 {β : Type} (call : CallF) (md : Bool) (n : Nat) (k : Ex → List AV → Heap → Option β) (x0 x38 : AV) (h : Heap) :
    runK C0 call md 19 n (.region 13 (O19 13) false) k (st 41 [(0, x0), (38, x38)]) h =
    bnd2 (aCall call md (.fn (.func 18) []) [x0] h) fun v1 h2 =>
    k .normal (st 41 [(6, v1)]) h2
  := by kernel_rfl
end Go.Ax

/- What the regions of some functions hand on. Printed by a program of mine (gen.py). -/
set_option linter.unusedVariables false
namespace Go.Ax
open Go Go.Proofs
/-! ### interregnum/interregnumref01.Fill -/
noncomputable def O21 (i : Nat) : Array Oper := opsOf i (bodyOf Try.f21)
theorem s21 : bodyOf Try.f21 = (.seq (.region 0 (O21 0) false) (.seq (.region 1 (O21 1) false) (.seq (.region 2 (O21 2) false) (.seq (.region 3 (O21 3) false) .ret)))) := by kernel_rfl
theorem e21 : E0 21 = some ⟨9, [2], bodyOf Try.f21⟩ := by kernel_rfl
theorem r21_0 {β : Type} (call : CallF) (md : Bool) (n : Nat) (k : Ex → List AV → Heap → Option β) (x0 : AV) (h : Heap) :
    runK C0 call md 21 n (.region 0 (O21 0) false) k (st 9 [(0, x0)]) h =
    bnd2 (freezeA .nils h) fun v1 h2 =>
    k .normal (st 9 [(0, x0)]) h2
  := by kernel_rfl
theorem r21_1 {β : Type} (call : CallF) (md : Bool) (n : Nat) (k : Ex → List AV → Heap → Option β) (x0 : AV) (h : Heap) :
    runK C0 call md 21 n (.region 1 (O21 1) false) k (st 9 [(0, x0)]) h =
    bnd2 (aMake tab 22 (.int .i64 64) (.int .i64 64) h) fun v1 h2 =>
    k .normal (st 9 [(0, x0), (3, v1)]) h2
  := by kernel_rfl
theorem r21_2 {β : Type} (call : CallF) (md : Bool) (n : Nat) (k : Ex → List AV → Heap → Option β) (x0 x3 : AV) (h : Heap) :
    runK C0 call md 21 n (.region 2 (O21 2) false) k (st 9 [(0, x0), (3, x3)]) h =
    bnd2 (aCpy tab 22 x3 x0 h) fun v1 h2 =>
    k .normal (st 9 [(3, x3)]) h2
  := by kernel_rfl
theorem r21_3 {β : Type} (call : CallF) (md : Bool) (n : Nat) (k : Ex → List AV → Heap → Option β) (x3 : AV) (h : Heap) :
    runK C0 call md 21 n (.region 3 (O21 3) false) k (st 9 [(3, x3)]) h =
    bnd2 (freezeA x3 h) fun v1 h2 =>
    k .normal (st 9 [(2, v1)]) h2
  := by kernel_rfl
end Go.Ax

/- What the regions of some functions hand on. Printed by a program of mine (gen.py). -/
set_option linter.unusedVariables false
namespace Go.Ax
open Go Go.Proofs
/-! ### (*interregnum/sector.Disk).Loose -/
noncomputable def O23 (i : Nat) : Array Oper := opsOf i (bodyOf Try.f23)
theorem s23 : bodyOf Try.f23 = (.seq (.region 0 (O23 0) false) (.seq (.region 1 (O23 1) false) .ret)) := by kernel_rfl
theorem e23 : E0 23 = some ⟨6, [2], bodyOf Try.f23⟩ := by kernel_rfl
theorem r23_0 {β : Type} (call : CallF) (md : Bool) (n : Nat) (k : Ex → List AV → Heap → Option β) (x0 : AV) (h : Heap) :
    runK C0 call md 23 n (.region 0 (O23 0) false) k (st 6 [(0, x0)]) h =
    k .normal (st 6 [(0, x0)]) h
  := by kernel_rfl
theorem r23_1 {β : Type} (call : CallF) (md : Bool) (n : Nat) (k : Ex → List AV → Heap → Option β) (x0 : AV) (h : Heap) :
    runK C0 call md 23 n (.region 1 (O23 1) false) k (st 6 [(0, x0)]) h =
    bnd2 (aCall call md (.fn (.func 53) []) [x0] h) fun v1 h2 =>
    bnd (aLen tab 93 v1) fun v3 =>
    k .normal (st 6 [(2, v3)]) h2
  := by kernel_rfl
end Go.Ax

/- region.Clean, the reference's Fill, Loose: what they compute. -/
namespace Go.Ax
open Go Go.Proofs

/-! ### Fill -/
theorem make22 (h : Heap) : aMake tab 22 (.int .i64 64) (.int .i64 64) h = some (.msl h.length [] 5 0 64, h ++ [.row 5 ((List.replicate 64 (0 : UInt8)).map U8)]) := by kernel_rfl
theorem cpy_row {h : Heap} {x : AV} {l c : List UInt8} (hx : srcElems tab 5 (h ++ [.row 5 (c.map U8)]) x = some (l.map U8)) (hc : c.length = 64) (hl : l.length ≤ 64) :
    aCpy tab 22 (.msl h.length [] 5 0 64) x (h ++ [.row 5 (c.map U8)]) = some (.int .i64 l.length, h ++ [.row 5 ((l ++ c.drop l.length).map U8)]) := by
  simp only [aCpy, td22, tu5, hx, aCopy]
  have e : (l.map U8).take l.length = l.map U8 := List.take_of_length_le (by simp)
  simp [rowGet, rowSet, hc, Nat.min_eq_left hl, e]
theorem frz_row (h : Heap) (c : List UInt8) (hc : c.length = 64) : freezeA (.msl h.length [] 5 0 64) (h ++ [.row 5 (c.map U8)]) = some (.vsl 5 (c.map U8) .none, h ++ [.dead]) := by
  have e : (c.map U8).take 64 = c.map U8 := List.take_of_length_le (by simp [hc])
  simp [freezeA, hc, e]

theorem frz_nils (h : Heap) : freezeA .nils h = some (.nils, h) := rfl

theorem fill_ok {U : Obs} {h : Heap} {x : AV} {b : List UInt8} (hb : By U h x b) (hl : b.length ≤ 64) (k : Nat) :
    ∃ h', exFn C0 E0 (k + 1) false 21 [x] h = some (.vsl 5 ((pad b).map U8) .none, h') ∧ Keep (From h.length) h h' := by
  have n0 : ([x] ++ List.replicate (9 - [x].length) AV.undef) = st 9 [(0, x)] := rfl
  have k1 : Keep (From h.length) h (h ++ [.row 5 ((List.replicate 64 (0 : UInt8)).map U8)]) := Keep.app h _ (Up.fresh h)
  have b1 := hb.keep k1 fun i hi _ hj => Nat.not_le.2 hi hj
  have cp := cpy_row b1.src (by simp) hl
  rw [drop_rep, show b ++ List.replicate (64 - b.length) (0 : UInt8) = pad b from rfl] at cp
  refine ⟨h ++ [.dead], exFn_of e21 ?_, Keep.app h _ (Up.fresh h)⟩
  rw [fnK, n0, s21]
  simp -implicitDefEqProofs only [↓runK_seq, runK_seq, ↓runK_cond, runK_cond, ↓runK_block, runK_block, ↓runK_loop, runK_loop, ↓runK_skip, runK_skip, ↓runK_ret, runK_ret, ↓runK_exit, runK_exit, ↓seqE_n, seqE_n, ↓seqE_e, seqE_e, ↓seqE_r, seqE_r, ↓blkE_n, blkE_n, ↓blkE_e, blkE_e, ↓blkE_r, blkE_r, ↓retK_n, retK_n, ↓retK_r, retK_r, ↓aCall_fn, aCall_fn, ↓bnd_s, bnd_s, ↓bnd2_s, bnd2_s, ↓onB_t, onB_t, ↓onB_f, onB_f, ↓onT_t, onT_t, ↓aPick_t, aPick_t, ↓aPick_f, aPick_f, decide_true, decide_false, st_tmp, results1, results2, List.lookup_cons, List.lookup_nil, Nat.reduceBEq, Bool.false_eq_true, ↓reduceIte, BEq.rfl, Nat.reduceLT, Option.getD_some, Option.getD_none, ↓r21_0, r21_0, ↓r21_1, r21_1, ↓r21_2, r21_2, ↓r21_3, r21_3, frz_nils, make22, cp, frz_row h (pad b) (by simp [pad]; omega)]

/-! ### Loose -/
theorem loose_ok {S : Obs} {p r : Nat} {h : Heap} {d : Dk} (D : Dsk S h p r d) (hl : d.loose.length < 2 ^ 30) (k : Nat) (hk : d.loose.length < k) :
    ∃ h', exFn C0 E0 (k + 2) false 23 [dp p] h = some (.int .i64 d.loose.length, h') ∧ Keep (From h.length) h h' := by
  obtain ⟨x, h', h1, h2, h3⟩ := pending_ok D hl k hk
  have n0 : ([dp p] ++ List.replicate (6 - [dp p].length) AV.undef) = st 6 [(0, dp p)] := rfl
  have hlen := len93 h2
  simp only [List.length_map] at hlen
  refine ⟨h', exFn_of e23 ?_, h3⟩
  rw [fnK, n0, s23]
  simp -implicitDefEqProofs only [↓runK_seq, runK_seq, ↓runK_cond, runK_cond, ↓runK_block, runK_block, ↓runK_loop, runK_loop, ↓runK_skip, runK_skip, ↓runK_ret, runK_ret, ↓runK_exit, runK_exit, ↓seqE_n, seqE_n, ↓seqE_e, seqE_e, ↓seqE_r, seqE_r, ↓blkE_n, blkE_n, ↓blkE_e, blkE_e, ↓blkE_r, blkE_r, ↓retK_n, retK_n, ↓retK_r, retK_r, ↓aCall_fn, aCall_fn, ↓bnd_s, bnd_s, ↓bnd2_s, bnd2_s, ↓onB_t, onB_t, ↓onB_f, onB_f, ↓onT_t, onT_t, ↓aPick_t, aPick_t, ↓aPick_f, aPick_f, decide_true, decide_false, st_tmp, results1, results2, List.lookup_cons, List.lookup_nil, Nat.reduceBEq, Bool.false_eq_true, ↓reduceIte, BEq.rfl, Nat.reduceLT, Option.getD_some, Option.getD_none, ↓r23_0, r23_0, ↓r23_1, r23_1, h1, hlen]

/-! ### Clean -/
/-- Clean's sectors from i on, m of them: an error (0: none), whether something was written, the disk then. -/
def cleanLoop : Nat → Nat → Bool → Dk → Int × Bool × Dk
  | 0, _, s, d => (0, s, d)
  | m + 1, i, s, d =>
    if ((d.now[i]?).getD []).all (· == 0) then cleanLoop m (i + 1) s d
    else if (d.write i []).1 = 0 then cleanLoop m (i + 1) true (d.write i []).2
    else ((d.write i []).1, s, (d.write i []).2)

theorem cleanLoop_zero (i : Nat) (s : Bool) (d : Dk) : cleanLoop 0 i s d = (0, s, d) := rfl
theorem cleanLoop_blank {m i : Nat} {s : Bool} {d : Dk} (h : ((d.now[i]?).getD []).all (· == 0) = true) : cleanLoop (m + 1) i s d = cleanLoop m (i + 1) s d := if_pos h
theorem cleanLoop_go {m i : Nat} {s : Bool} {d : Dk} (h : ((d.now[i]?).getD []).all (· == 0) = false) (h2 : (d.write i []).1 = 0) : cleanLoop (m + 1) i s d = cleanLoop m (i + 1) true (d.write i []).2 := by
  rw [cleanLoop, if_neg (by simp [h]), if_pos h2]
theorem cleanLoop_no {m i : Nat} {s : Bool} {d : Dk} (h : ((d.now[i]?).getD []).all (· == 0) = false) (h2 : (d.write i []).1 ≠ 0) : cleanLoop (m + 1) i s d = ((d.write i []).1, s, (d.write i []).2) := by
  rw [cleanLoop, if_neg (by simp [h]), if_neg h2]

theorem cleanLoop_loose : ∀ (m i : Nat) (s : Bool) (d : Dk), (cleanLoop m i s d).2.2.loose.length ≤ d.loose.length + m ∧ (cleanLoop m i s d).2.2.fuse ≤ d.fuse ∧ (cleanLoop m i s d).2.2.lasts.length = d.lasts.length := by
  intro m
  induction m with
  | zero => intro i s d; simp [cleanLoop]
  | succ m ih =>
    intro i s d
    cases hz : ((d.now[i]?).getD []).all (· == 0)
    · by_cases hw : (d.write i []).1 = 0
      · rw [cleanLoop_go hz hw]
        have := ih (i + 1) true (d.write i []).2
        have h1 := write_loose d i []
        have h2 := write_fuse d i []
        have h3 := write_len d i []
        omega
      · rw [cleanLoop_no hz hw]
        have h1 := write_loose d i []
        have h2 := write_fuse d i []
        have h3 := write_len d i []
        simp only
        omega
    · rw [cleanLoop_blank hz]
      have := ih (i + 1) s d
      omega

theorem clean_loop {S : Obs} {p r : Nat} (e : Int) (N : Nat) :
    ∀ (m i n : Nat) (s : Bool) (d : Dk) (h : Heap), m = (min e d.lasts.length - i).toNat → m < n → Up S h → Dsk S h p r d → d.loose.length + m < 2 ^ 29 → d.loose.length + m + 10 < N → d.fuse < 2 ^ 62 →
    ∃ h' j, (∀ K : Ex → List AV → Heap → Option (AV × Heap), loopK (fun next => runK C0 (exFn C0 E0 (N + 3)) false 19 (N + 3) B19_1 (seqE next K)) n (st 41 [(0, dp p), (2, .int .i64 e), (7, .bool s), (8, .int .i64 i)]) h =
      if (cleanLoop m i s d).1 = 0 then K (.exit 0) (st 41 [(0, dp p), (2, .int .i64 e), (7, .bool (cleanLoop m i s d).2.1), (8, j), (19, .bool false)]) h'
      else K .ret (st 41 [(6, .int .i64 (cleanLoop m i s d).1)]) h') ∧
      Dsk S h' p r (cleanLoop m i s d).2.2 ∧ Keep S h h' := by
  intro m
  induction m with
  | zero =>
    intro i n s d h hm hn up D hl hN hf
    obtain ⟨n, rfl⟩ : ∃ j, n = j + 1 := ⟨n - 1, by omega⟩
    rw [cleanLoop_zero]
    refine ⟨h, .int .i64 i, fun K => ?_, D, Keep.refl _ _⟩
    rw [if_pos rfl, loopK_succ]
    generalize loopK (_ : (List AV → Heap → Option (AV × Heap)) → List AV → Heap → Option (AV × Heap)) n = Lp
    have lk := len_ok D false (N + 2)
    have e1 : decide ((i : Int) < (if ((d.lasts.length : Nat) : Int) < e then ((d.lasts.length : Nat) : Int) else e)) = false := decide_eq_false (by split <;> omega)
    simp -implicitDefEqProofs only [B19_1, ↓runK_seq, runK_seq, ↓runK_cond, runK_cond, ↓runK_block, runK_block, ↓runK_loop, runK_loop, ↓runK_skip, runK_skip, ↓runK_ret, runK_ret, ↓runK_exit, runK_exit, ↓seqE_n, seqE_n, ↓seqE_e, seqE_e, ↓seqE_r, seqE_r, ↓blkE_n, blkE_n, ↓blkE_e, blkE_e, ↓blkE_r, blkE_r, ↓retK_n, retK_n, ↓retK_r, retK_r, ↓aCall_fn, aCall_fn, ↓bnd_s, bnd_s, ↓bnd2_s, bnd2_s, ↓onB_t, onB_t, ↓onB_f, onB_f, ↓onT_t, onT_t, ↓aPick_t, aPick_t, ↓aPick_f, aPick_f, decide_true, decide_false, st_tmp, results1, results2, List.lookup_cons, List.lookup_nil, Nat.reduceBEq, Bool.false_eq_true, ↓reduceIte, BEq.rfl, Nat.reduceLT, Option.getD_some, Option.getD_none, ↓r19_0, r19_0, ↓r19_1, r19_1, ↓r19_2, r19_2, ↓r19_3, r19_3, ↓r19_4a, r19_4a, ↓r19_4b, r19_4b, ↓r19_5, r19_5, ↓r19_6, r19_6, ↓r19_7, r19_7, ↓r19_8, r19_8, ↓r19_9, r19_9, ↓r19_10, r19_10, ↓r19_11, r19_11, ↓r19_12, r19_12, ↓r19_13, r19_13, lk, min2_i64, bin_lss, e1]
  | succ m ih =>
    intro i n s d h hm hn up D hl hN hf
    obtain ⟨n, rfl⟩ : ∃ j, n = j + 1 := ⟨n - 1, by omega⟩
    have hfew := D.few
    have lk := len_ok D false (N + 2)
    have e1 : decide ((i : Int) < (if ((d.lasts.length : Nat) : Int) < e then ((d.lasts.length : Nat) : Int) else e)) = true := decide_eq_true (by split <;> omega)
    have hlt : i < d.now.length := by rw [D.now_length]; omega
    have wr : IntKind.i64.wrap ((i : Int) + 1) = ((i + 1 : Nat) : Int) := by rw [wrap_i64] <;> omega
    obtain ⟨y, h1, r1, r2, r3⟩ := read_ok D (by omega) (i : Int) (N + 2) (by omega)
    have hrd : d.read (i : Int) = ((d.now[i]?).getD [], 0) := by
      unfold Dk.read
      rw [if_pos ⟨by omega, by rw [D.now_length] at hlt; omega⟩, Int.toNat_natCast]
    rw [hrd] at r1 r2
    have bs : Bs y ((d.now[i]?).getD []) := r2.bs
    have D1 := D.fresh r3
    have up1 := up.keep r3
    have z1 := zero_ok bs false h1 N
    cases hz : ((d.now[i]?).getD []).all (· == 0)
    · rw [hz] at z1
      obtain ⟨h2, w1, D2, k2⟩ := write_ok D1 up1 (i : Int) (x := .nils) (b := []) (U := fun _ => False) (.inl (.inl ⟨rfl, rfl⟩)) (fun _ _ h => h.elim) (by omega) hf N
      have a1 := write_loose d i []
      have a2 := write_fuse d i []
      have a3 := write_len d i []
      have kk := (r3.up up).trans k2
      by_cases hw : (d.write i []).1 = 0
      · rw [cleanLoop_go hz hw]
        obtain ⟨h3, j, g1, g2, g3⟩ := ih (i + 1) n true _ h2 (by omega) (by omega) (up1.keep k2) D2 (by omega) (by omega) (by omega)
        refine ⟨h3, j, fun K => ?_, g2, kk.trans g3⟩
        rw [loopK_succ, ← g1 K]
        generalize loopK (_ : (List AV → Heap → Option (AV × Heap)) → List AV → Heap → Option (AV × Heap)) n = Lp
        rw [hw] at w1
        have c0 : decide ((0 : Int) ≠ 0) = false := by decide
        simp -implicitDefEqProofs only [B19_1, ↓runK_seq, runK_seq, ↓runK_cond, runK_cond, ↓runK_block, runK_block, ↓runK_loop, runK_loop, ↓runK_skip, runK_skip, ↓runK_ret, runK_ret, ↓runK_exit, runK_exit, ↓seqE_n, seqE_n, ↓seqE_e, seqE_e, ↓seqE_r, seqE_r, ↓blkE_n, blkE_n, ↓blkE_e, blkE_e, ↓blkE_r, blkE_r, ↓retK_n, retK_n, ↓retK_r, retK_r, ↓aCall_fn, aCall_fn, ↓bnd_s, bnd_s, ↓bnd2_s, bnd2_s, ↓onB_t, onB_t, ↓onB_f, onB_f, ↓onT_t, onT_t, ↓aPick_t, aPick_t, ↓aPick_f, aPick_f, decide_true, decide_false, st_tmp, results1, results2, List.lookup_cons, List.lookup_nil, Nat.reduceBEq, Bool.false_eq_true, ↓reduceIte, BEq.rfl, Nat.reduceLT, Option.getD_some, Option.getD_none, ↓r19_0, r19_0, ↓r19_1, r19_1, ↓r19_2, r19_2, ↓r19_3, r19_3, ↓r19_4a, r19_4a, ↓r19_4b, r19_4b, ↓r19_5, r19_5, ↓r19_6, r19_6, ↓r19_7, r19_7, ↓r19_8, r19_8, ↓r19_9, r19_9, ↓r19_10, r19_10, ↓r19_11, r19_11, ↓r19_12, r19_12, ↓r19_13, r19_13, lk, min2_i64, bin_lss, e1, r1, ext0, ext1, z1, un_not, Bool.not_false, w1, neq27, c0, bin_add, wr]
      · rw [cleanLoop_no hz hw]
        refine ⟨h2, .undef, fun K => ?_, D2, kk⟩
        rw [if_neg hw, loopK_succ]
        generalize loopK (_ : (List AV → Heap → Option (AV × Heap)) → List AV → Heap → Option (AV × Heap)) n = Lp
        have c0 : decide ((d.write (i : Int) []).1 ≠ 0) = true := decide_eq_true hw
        simp -implicitDefEqProofs only [B19_1, ↓runK_seq, runK_seq, ↓runK_cond, runK_cond, ↓runK_block, runK_block, ↓runK_loop, runK_loop, ↓runK_skip, runK_skip, ↓runK_ret, runK_ret, ↓runK_exit, runK_exit, ↓seqE_n, seqE_n, ↓seqE_e, seqE_e, ↓seqE_r, seqE_r, ↓blkE_n, blkE_n, ↓blkE_e, blkE_e, ↓blkE_r, blkE_r, ↓retK_n, retK_n, ↓retK_r, retK_r, ↓aCall_fn, aCall_fn, ↓bnd_s, bnd_s, ↓bnd2_s, bnd2_s, ↓onB_t, onB_t, ↓onB_f, onB_f, ↓onT_t, onT_t, ↓aPick_t, aPick_t, ↓aPick_f, aPick_f, decide_true, decide_false, st_tmp, results1, results2, List.lookup_cons, List.lookup_nil, Nat.reduceBEq, Bool.false_eq_true, ↓reduceIte, BEq.rfl, Nat.reduceLT, Option.getD_some, Option.getD_none, ↓r19_0, r19_0, ↓r19_1, r19_1, ↓r19_2, r19_2, ↓r19_3, r19_3, ↓r19_4a, r19_4a, ↓r19_4b, r19_4b, ↓r19_5, r19_5, ↓r19_6, r19_6, ↓r19_7, r19_7, ↓r19_8, r19_8, ↓r19_9, r19_9, ↓r19_10, r19_10, ↓r19_11, r19_11, ↓r19_12, r19_12, ↓r19_13, r19_13, lk, min2_i64, bin_lss, e1, r1, ext0, ext1, z1, un_not, Bool.not_false, w1, neq27, c0]
    · rw [hz] at z1
      rw [cleanLoop_blank hz]
      obtain ⟨h3, j, g1, g2, g3⟩ := ih (i + 1) n s d h1 (by omega) (by omega) up1 D1 (by omega) (by omega) hf
      refine ⟨h3, j, fun K => ?_, g2, (r3.up up).trans g3⟩
      rw [loopK_succ, ← g1 K]
      generalize loopK (_ : (List AV → Heap → Option (AV × Heap)) → List AV → Heap → Option (AV × Heap)) n = Lp
      simp -implicitDefEqProofs only [B19_1, ↓runK_seq, runK_seq, ↓runK_cond, runK_cond, ↓runK_block, runK_block, ↓runK_loop, runK_loop, ↓runK_skip, runK_skip, ↓runK_ret, runK_ret, ↓runK_exit, runK_exit, ↓seqE_n, seqE_n, ↓seqE_e, seqE_e, ↓seqE_r, seqE_r, ↓blkE_n, blkE_n, ↓blkE_e, blkE_e, ↓blkE_r, blkE_r, ↓retK_n, retK_n, ↓retK_r, retK_r, ↓aCall_fn, aCall_fn, ↓bnd_s, bnd_s, ↓bnd2_s, bnd2_s, ↓onB_t, onB_t, ↓onB_f, onB_f, ↓onT_t, onT_t, ↓aPick_t, aPick_t, ↓aPick_f, aPick_f, decide_true, decide_false, st_tmp, results1, results2, List.lookup_cons, List.lookup_nil, Nat.reduceBEq, Bool.false_eq_true, ↓reduceIte, BEq.rfl, Nat.reduceLT, Option.getD_some, Option.getD_none, ↓r19_0, r19_0, ↓r19_1, r19_1, ↓r19_2, r19_2, ↓r19_3, r19_3, ↓r19_4a, r19_4a, ↓r19_4b, r19_4b, ↓r19_5, r19_5, ↓r19_6, r19_6, ↓r19_7, r19_7, ↓r19_8, r19_8, ↓r19_9, r19_9, ↓r19_10, r19_10, ↓r19_11, r19_11, ↓r19_12, r19_12, ↓r19_13, r19_13, lk, min2_i64, bin_lss, e1, r1, ext0, ext1, z1, un_not, Bool.not_true, bin_add, wr]

def Dk.clean (d : Dk) (a e : Int) : Int × Dk :=
  let r := cleanLoop (min e d.lasts.length - max a 0).toNat (max a 0).toNat false d
  if r.1 ≠ 0 then (r.1, r.2.2) else if r.2.1 then r.2.2.flush else (0, r.2.2)

theorem clean_ok {S : Obs} {p r : Nat} {h : Heap} {d : Dk} (D : Dsk S h p r d) (up : Up S h) (hl : d.loose.length < 2 ^ 28) (hf : d.fuse < 2 ^ 62) (a e : Int) (k : Nat) (hk : d.loose.length + 9000 < k) :
    ∃ h', exFn C0 E0 (k + 1) false 19 [dp p, .int .i64 a, .int .i64 e] h = some (.int .i64 (d.clean a e).1, h') ∧ Dsk S h' p r (d.clean a e).2 ∧ Keep S h h' := by
  obtain ⟨k, rfl⟩ : ∃ j, k = j + 3 := ⟨k - 3, by omega⟩
  have hfew := D.few
  have n0 : ([dp p, .int .i64 a, .int .i64 e] ++ List.replicate (41 - [dp p, AV.int .i64 a, .int .i64 e].length) AV.undef) = st 41 [(0, dp p), (1, .int .i64 a), (2, .int .i64 e)] := rfl
  have mx : (if a < 0 then 0 else a) = (((max a 0).toNat : Nat) : Int) := by split <;> omega
  have hcl := cleanLoop_loose (min e d.lasts.length - max a 0).toNat (max a 0).toNat false d
  obtain ⟨h1, j, f1, f2, f3⟩ := clean_loop (S := S) (p := p) (r := r) e k (min e d.lasts.length - max a 0).toNat (max a 0).toNat (k + 3) false d h (by omega) (by omega) up D (by omega) (by omega) hf
  unfold Dk.clean
  generalize hL : cleanLoop (min e d.lasts.length - max a 0).toNat (max a 0).toNat false d = L at *
  obtain ⟨le, ls, ld⟩ := L
  simp only at f1 f2 hcl ⊢
  by_cases z1 : le = 0
  · subst z1
    rw [if_neg (fun h => h rfl)]
    simp only [if_true] at f1
    cases ls
    · rw [if_neg Bool.false_ne_true]
      refine ⟨h1, exFn_of e19 ?_, f2, f3⟩
      rw [fnK, n0, s19]
      simp -implicitDefEqProofs only [↓runK_seq, runK_seq, ↓runK_cond, runK_cond, ↓runK_block, runK_block, ↓runK_loop, runK_loop, ↓runK_skip, runK_skip, ↓runK_ret, runK_ret, ↓runK_exit, runK_exit, ↓seqE_n, seqE_n, ↓seqE_e, seqE_e, ↓seqE_r, seqE_r, ↓blkE_n, blkE_n, ↓blkE_e, blkE_e, ↓blkE_r, blkE_r, ↓retK_n, retK_n, ↓retK_r, retK_r, ↓aCall_fn, aCall_fn, ↓bnd_s, bnd_s, ↓bnd2_s, bnd2_s, ↓onB_t, onB_t, ↓onB_f, onB_f, ↓onT_t, onT_t, ↓aPick_t, aPick_t, ↓aPick_f, aPick_f, decide_true, decide_false, st_tmp, results1, results2, List.lookup_cons, List.lookup_nil, Nat.reduceBEq, Bool.false_eq_true, ↓reduceIte, BEq.rfl, Nat.reduceLT, Option.getD_some, Option.getD_none, ↓r19_0, r19_0, ↓r19_1, r19_1, ↓r19_2, r19_2, ↓r19_3, r19_3, ↓r19_4a, r19_4a, ↓r19_4b, r19_4b, ↓r19_5, r19_5, ↓r19_6, r19_6, ↓r19_7, r19_7, ↓r19_8, r19_8, ↓r19_9, r19_9, ↓r19_10, r19_10, ↓r19_11, r19_11, ↓r19_12, r19_12, ↓r19_13, r19_13, max2_i64, mx]
      rw [f1]
      simp -implicitDefEqProofs only [↓runK_seq, runK_seq, ↓runK_cond, runK_cond, ↓runK_block, runK_block, ↓runK_loop, runK_loop, ↓runK_skip, runK_skip, ↓runK_ret, runK_ret, ↓runK_exit, runK_exit, ↓seqE_n, seqE_n, ↓seqE_e, seqE_e, ↓seqE_r, seqE_r, ↓blkE_n, blkE_n, ↓blkE_e, blkE_e, ↓blkE_r, blkE_r, ↓retK_n, retK_n, ↓retK_r, retK_r, ↓aCall_fn, aCall_fn, ↓bnd_s, bnd_s, ↓bnd2_s, bnd2_s, ↓onB_t, onB_t, ↓onB_f, onB_f, ↓onT_t, onT_t, ↓aPick_t, aPick_t, ↓aPick_f, aPick_f, decide_true, decide_false, st_tmp, results1, results2, List.lookup_cons, List.lookup_nil, Nat.reduceBEq, Bool.false_eq_true, ↓reduceIte, BEq.rfl, Nat.reduceLT, Option.getD_some, Option.getD_none, ↓r19_0, r19_0, ↓r19_1, r19_1, ↓r19_2, r19_2, ↓r19_3, r19_3, ↓r19_4a, r19_4a, ↓r19_4b, r19_4b, ↓r19_5, r19_5, ↓r19_6, r19_6, ↓r19_7, r19_7, ↓r19_8, r19_8, ↓r19_9, r19_9, ↓r19_10, r19_10, ↓r19_11, r19_11, ↓r19_12, r19_12, ↓r19_13, r19_13, un_not, Bool.not_false]
    · rw [if_pos rfl]
      obtain ⟨h2, g1, g2, g3⟩ := flush_ok f2 (up.keep f3) (by omega) (by omega) false (k + 2) (by omega)
      refine ⟨h2, exFn_of e19 ?_, g2, f3.trans g3⟩
      rw [fnK, n0, s19]
      simp -implicitDefEqProofs only [↓runK_seq, runK_seq, ↓runK_cond, runK_cond, ↓runK_block, runK_block, ↓runK_loop, runK_loop, ↓runK_skip, runK_skip, ↓runK_ret, runK_ret, ↓runK_exit, runK_exit, ↓seqE_n, seqE_n, ↓seqE_e, seqE_e, ↓seqE_r, seqE_r, ↓blkE_n, blkE_n, ↓blkE_e, blkE_e, ↓blkE_r, blkE_r, ↓retK_n, retK_n, ↓retK_r, retK_r, ↓aCall_fn, aCall_fn, ↓bnd_s, bnd_s, ↓bnd2_s, bnd2_s, ↓onB_t, onB_t, ↓onB_f, onB_f, ↓onT_t, onT_t, ↓aPick_t, aPick_t, ↓aPick_f, aPick_f, decide_true, decide_false, st_tmp, results1, results2, List.lookup_cons, List.lookup_nil, Nat.reduceBEq, Bool.false_eq_true, ↓reduceIte, BEq.rfl, Nat.reduceLT, Option.getD_some, Option.getD_none, ↓r19_0, r19_0, ↓r19_1, r19_1, ↓r19_2, r19_2, ↓r19_3, r19_3, ↓r19_4a, r19_4a, ↓r19_4b, r19_4b, ↓r19_5, r19_5, ↓r19_6, r19_6, ↓r19_7, r19_7, ↓r19_8, r19_8, ↓r19_9, r19_9, ↓r19_10, r19_10, ↓r19_11, r19_11, ↓r19_12, r19_12, ↓r19_13, r19_13, max2_i64, mx]
      rw [f1]
      simp -implicitDefEqProofs only [↓runK_seq, runK_seq, ↓runK_cond, runK_cond, ↓runK_block, runK_block, ↓runK_loop, runK_loop, ↓runK_skip, runK_skip, ↓runK_ret, runK_ret, ↓runK_exit, runK_exit, ↓seqE_n, seqE_n, ↓seqE_e, seqE_e, ↓seqE_r, seqE_r, ↓blkE_n, blkE_n, ↓blkE_e, blkE_e, ↓blkE_r, blkE_r, ↓retK_n, retK_n, ↓retK_r, retK_r, ↓aCall_fn, aCall_fn, ↓bnd_s, bnd_s, ↓bnd2_s, bnd2_s, ↓onB_t, onB_t, ↓onB_f, onB_f, ↓onT_t, onT_t, ↓aPick_t, aPick_t, ↓aPick_f, aPick_f, decide_true, decide_false, st_tmp, results1, results2, List.lookup_cons, List.lookup_nil, Nat.reduceBEq, Bool.false_eq_true, ↓reduceIte, BEq.rfl, Nat.reduceLT, Option.getD_some, Option.getD_none, ↓r19_0, r19_0, ↓r19_1, r19_1, ↓r19_2, r19_2, ↓r19_3, r19_3, ↓r19_4a, r19_4a, ↓r19_4b, r19_4b, ↓r19_5, r19_5, ↓r19_6, r19_6, ↓r19_7, r19_7, ↓r19_8, r19_8, ↓r19_9, r19_9, ↓r19_10, r19_10, ↓r19_11, r19_11, ↓r19_12, r19_12, ↓r19_13, r19_13, un_not, Bool.not_true, g1]
  · rw [if_pos z1]
    refine ⟨h1, exFn_of e19 ?_, f2, f3⟩
    rw [fnK, n0, s19]
    simp -implicitDefEqProofs only [↓runK_seq, runK_seq, ↓runK_cond, runK_cond, ↓runK_block, runK_block, ↓runK_loop, runK_loop, ↓runK_skip, runK_skip, ↓runK_ret, runK_ret, ↓runK_exit, runK_exit, ↓seqE_n, seqE_n, ↓seqE_e, seqE_e, ↓seqE_r, seqE_r, ↓blkE_n, blkE_n, ↓blkE_e, blkE_e, ↓blkE_r, blkE_r, ↓retK_n, retK_n, ↓retK_r, retK_r, ↓aCall_fn, aCall_fn, ↓bnd_s, bnd_s, ↓bnd2_s, bnd2_s, ↓onB_t, onB_t, ↓onB_f, onB_f, ↓onT_t, onT_t, ↓aPick_t, aPick_t, ↓aPick_f, aPick_f, decide_true, decide_false, st_tmp, results1, results2, List.lookup_cons, List.lookup_nil, Nat.reduceBEq, Bool.false_eq_true, ↓reduceIte, BEq.rfl, Nat.reduceLT, Option.getD_some, Option.getD_none, ↓r19_0, r19_0, ↓r19_1, r19_1, ↓r19_2, r19_2, ↓r19_3, r19_3, ↓r19_4a, r19_4a, ↓r19_4b, r19_4b, ↓r19_5, r19_5, ↓r19_6, r19_6, ↓r19_7, r19_7, ↓r19_8, r19_8, ↓r19_9, r19_9, ↓r19_10, r19_10, ↓r19_11, r19_11, ↓r19_12, r19_12, ↓r19_13, r19_13, max2_i64, mx]
    rw [f1, if_neg z1]
    simp -implicitDefEqProofs only [↓runK_seq, runK_seq, ↓runK_cond, runK_cond, ↓runK_block, runK_block, ↓runK_loop, runK_loop, ↓runK_skip, runK_skip, ↓runK_ret, runK_ret, ↓runK_exit, runK_exit, ↓seqE_n, seqE_n, ↓seqE_e, seqE_e, ↓seqE_r, seqE_r, ↓blkE_n, blkE_n, ↓blkE_e, blkE_e, ↓blkE_r, blkE_r, ↓retK_n, retK_n, ↓retK_r, retK_r, ↓aCall_fn, aCall_fn, ↓bnd_s, bnd_s, ↓bnd2_s, bnd2_s, ↓onB_t, onB_t, ↓onB_f, onB_f, ↓onT_t, onT_t, ↓aPick_t, aPick_t, ↓aPick_f, aPick_f, decide_true, decide_false, st_tmp, results1, results2, List.lookup_cons, List.lookup_nil, Nat.reduceBEq, Bool.false_eq_true, ↓reduceIte, BEq.rfl, Nat.reduceLT, Option.getD_some, Option.getD_none]
end Go.Ax

/- What the regions of some functions hand on. Printed by a program of mine (gen.py). -/
set_option linter.unusedVariables false
namespace Go.Ax
open Go Go.Proofs
/-! ### interregnum/interregnumlaw03.RegionClean -/
noncomputable def O4 (i : Nat) : Array Oper := opsOf i (bodyOf Try.f4)
noncomputable def B4_1 : Code := (.seq (.seq (.region 5 (O4 5) false) (.cond (Go.Operand.tmp 22) .skip (.exit 0))) (.seq (.block 1 (.region 7 (O4 7) false)) (.region 6 (O4 6) false)))
noncomputable def B4_2 : Code := (.seq (.seq (.region 12 (O4 12) false) (.cond (Go.Operand.tmp 45) .skip (.exit 2))) (.seq (.block 3 (.seq (.region 14 (O4 14) false) (.seq (.region 15 (O4 15) false) (.seq (.seq (.region 16 (O4 16) false) (.cond (Go.Operand.tmp 66) (.region 17 (O4 17) false) .skip)) (.seq (.region 18 (O4 18) false) (.cond (Go.Operand.tmp 71) (.seq (.region 19 (O4 19) false) .ret) .skip)))))) (.region 13 (O4 13) false)))
theorem s4 : bodyOf Try.f4 = (.seq (.region 0 (O4 0) false) (.seq (.seq (.region 1 (O4 1) false) (.cond (Go.Operand.tmp 18) (.seq (.region 2 (O4 2) false) .ret) .skip)) (.seq (.region 3 (O4 3) false) (.seq (.seq (.region 4 (O4 4) false) (.block 0 (.loop B4_1))) (.seq (.region 8 (O4 8) false) (.seq (.region 9 (O4 9) false) (.seq (.region 10 (O4 10) false) (.seq (.seq (.region 11 (O4 11) false) (.block 2 (.loop B4_2))) (.seq (.region 20 (O4 20) false) .ret))))))))) := by kernel_rfl
theorem e4 : E0 4 = some ⟨82, [6], bodyOf Try.f4⟩ := by kernel_rfl
theorem r4_0 {β : Type} (call : CallF) (md : Bool) (n : Nat) (k : Ex → List AV → Heap → Option β) (x0 x1 x2 : AV) (h : Heap) :
    runK C0 call md 4 n (.region 0 (O4 0) false) k (st 82 [(0, x0), (1, x1), (2, x2)]) h =
    k .normal (st 82 [(0, x0), (1, x1), (2, x2)]) h
  := by kernel_rfl
theorem r4_1 {β : Type} (call : CallF) (md : Bool) (n : Nat) (k : Ex → List AV → Heap → Option β) (x0 x1 x2 : AV) (h : Heap) :
    runK C0 call md 4 n (.region 1 (O4 1) false) k (st 82 [(0, x0), (1, x1), (2, x2)]) h =
    bnd (aLen tab 22 x0) fun v1 =>
    bnd (aBinC tab .gtr 3 v1 (.int .i64 300) true) fun v2 =>
    k .normal (st 82 [(1, x1), (2, x2), (18, v2)]) h
  := by kernel_rfl
theorem r4_2 {β : Type} (call : CallF) (md : Bool) (n : Nat) (k : Ex → List AV → Heap → Option β) (x1 x2 x18 : AV) (h : Heap) :
    runK C0 call md 4 n (.region 2 (O4 2) false) k (st 82 [(1, x1), (2, x2), (18, x18)]) h =
    bnd2 (aCall call md (.fn (.func 12) []) [] h) fun v1 h2 =>
    k .normal (st 82 [(6, v1)]) h2
  := by kernel_rfl
theorem r4_3 {β : Type} (call : CallF) (md : Bool) (n : Nat) (k : Ex → List AV → Heap → Option β) (x1 x2 x18 : AV) (h : Heap) :
    runK C0 call md 4 n (.region 3 (O4 3) false) k (st 82 [(1, x1), (2, x2), (18, x18)]) h =
    bnd2 (aCall call md (.fn (.func 13) []) [(.int .i64 20)] h) fun v1 h2 =>
    k .normal (st 82 [(1, x1), (2, x2), (7, v1)]) h2
  := by kernel_rfl
theorem r4_4 {β : Type} (call : CallF) (md : Bool) (n : Nat) (k : Ex → List AV → Heap → Option β) (x1 x2 x7 : AV) (h : Heap) :
    runK C0 call md 4 n (.region 4 (O4 4) false) k (st 82 [(1, x1), (2, x2), (7, x7)]) h =
    k .normal (st 82 [(1, x1), (2, x2), (7, x7), (8, (.int .i64 0))]) h
  := by kernel_rfl
theorem r4_5 {β : Type} (call : CallF) (md : Bool) (n : Nat) (k : Ex → List AV → Heap → Option β) (x1 x2 x7 x8 : AV) (h : Heap) :
    runK C0 call md 4 n (.region 5 (O4 5) false) k (st 82 [(1, x1), (2, x2), (7, x7), (8, x8)]) h =
    bnd (aBinC tab .lss 3 x8 (.int .i64 20) true) fun v1 =>
    k .normal (st 82 [(1, x1), (2, x2), (7, x7), (8, x8), (22, v1)]) h
  := by kernel_rfl
theorem r4_6 {β : Type} (call : CallF) (md : Bool) (n : Nat) (k : Ex → List AV → Heap → Option β) (x1 x2 x7 x8 : AV) (h : Heap) :
    runK C0 call md 4 n (.region 6 (O4 6) false) k (st 82 [(1, x1), (2, x2), (7, x7), (8, x8)]) h =
    bnd (aBinC tab .add 3 x8 (.int .i64 1) true) fun v1 =>
    k .normal (st 82 [(1, x1), (2, x2), (7, x7), (8, v1)]) h
  := by kernel_rfl
theorem r4_7 {β : Type} (call : CallF) (md : Bool) (n : Nat) (k : Ex → List AV → Heap → Option β) (x1 x2 x7 x8 x22 : AV) (h : Heap) :
    runK C0 call md 4 n (.region 7 (O4 7) false) k (st 82 [(1, x1), (2, x2), (7, x7), (8, x8), (22, x22)]) h =
    bnd (aBinC tab .add 3 x8 (.int .i64 1) true) fun v1 =>
    bnd (aConv tab 3 5 v1 h) fun v2 =>
    bnd (aLit tab 22 1 [(0, v2)]) fun v3 =>
    bnd2 (aCall call md (.fn (.func 17) []) [x7, x8, v3] h) fun v4 h5 =>
    k .normal (st 82 [(1, x1), (2, x2), (7, x7), (8, x8)]) h5
  := by kernel_rfl
theorem r4_8 {β : Type} (call : CallF) (md : Bool) (n : Nat) (k : Ex → List AV → Heap → Option β) (x1 x2 x7 x8 x22 : AV) (h : Heap) :
    runK C0 call md 4 n (.region 8 (O4 8) false) k (st 82 [(1, x1), (2, x2), (7, x7), (8, x8), (22, x22)]) h =
    bnd2 (aCall call md (.fn (.func 18) []) [x7] h) fun v1 h2 =>
    k .normal (st 82 [(1, x1), (2, x2), (7, x7)]) h2
  := by kernel_rfl
theorem r4_9 {β : Type} (call : CallF) (md : Bool) (n : Nat) (k : Ex → List AV → Heap → Option β) (x1 x2 x7 : AV) (h : Heap) :
    runK C0 call md 4 n (.region 9 (O4 9) false) k (st 82 [(1, x1), (2, x2), (7, x7)]) h =
    bnd (aBinC tab .rem 5 x1 (.int .u8 24) true) fun v1 =>
    bnd (aConv tab 5 3 v1 h) fun v2 =>
    bnd (aBinC tab .rem 5 x2 (.int .u8 24) true) fun v3 =>
    bnd (aConv tab 5 3 v3 h) fun v4 =>
    k .normal (st 82 [(7, x7), (9, v2), (10, v4)]) h
  := by kernel_rfl
theorem r4_10 {β : Type} (call : CallF) (md : Bool) (n : Nat) (k : Ex → List AV → Heap → Option β) (x7 x9 x10 : AV) (h : Heap) :
    runK C0 call md 4 n (.region 10 (O4 10) false) k (st 82 [(7, x7), (9, x9), (10, x10)]) h =
    bnd2 (aCall call md (.fn (.func 19) []) [x7, x9, x10] h) fun v1 h2 =>
    k .normal (st 82 [(7, x7), (9, x9), (10, x10), (11, v1)]) h2
  := by kernel_rfl
theorem r4_11 {β : Type} (call : CallF) (md : Bool) (n : Nat) (k : Ex → List AV → Heap → Option β) (x7 x9 x10 x11 : AV) (h : Heap) :
    runK C0 call md 4 n (.region 11 (O4 11) false) k (st 82 [(7, x7), (9, x9), (10, x10), (11, x11)]) h =
    k .normal (st 82 [(7, x7), (9, x9), (10, x10), (11, x11), (12, (.int .i64 0))]) h
  := by kernel_rfl
theorem r4_12 {β : Type} (call : CallF) (md : Bool) (n : Nat) (k : Ex → List AV → Heap → Option β) (x7 x9 x10 x11 x12 : AV) (h : Heap) :
    runK C0 call md 4 n (.region 12 (O4 12) false) k (st 82 [(7, x7), (9, x9), (10, x10), (11, x11), (12, x12)]) h =
    bnd (aBinC tab .lss 3 x12 (.int .i64 20) true) fun v1 =>
    k .normal (st 82 [(7, x7), (9, x9), (10, x10), (11, x11), (12, x12), (45, v1)]) h
  := by kernel_rfl
theorem r4_13 {β : Type} (call : CallF) (md : Bool) (n : Nat) (k : Ex → List AV → Heap → Option β) (x7 x9 x10 x11 x12 x71 : AV) (h : Heap) :
    runK C0 call md 4 n (.region 13 (O4 13) false) k (st 82 [(7, x7), (9, x9), (10, x10), (11, x11), (12, x12), (71, x71)]) h =
    bnd (aBinC tab .add 3 x12 (.int .i64 1) true) fun v1 =>
    k .normal (st 82 [(7, x7), (9, x9), (10, x10), (11, x11), (12, v1)]) h
  := by kernel_rfl
theorem r4_14 {β : Type} (call : CallF) (md : Bool) (n : Nat) (k : Ex → List AV → Heap → Option β) (x7 x9 x10 x11 x12 x45 : AV) (h : Heap) :
    runK C0 call md 4 n (.region 14 (O4 14) false) k (st 82 [(7, x7), (9, x9), (10, x10), (11, x11), (12, x12), (45, x45)]) h =
    bnd2 (aCall call md (.fn (.func 20) []) [x7, x12] h) fun v1 h2 =>
    bnd (aExtract v1 0) fun v3 =>
    bnd (aExtract v1 1) fun v4 =>
    k .normal (st 82 [(7, x7), (9, x9), (10, x10), (11, x11), (12, x12), (13, v3)]) h2
  := by kernel_rfl
theorem r4_15 {β : Type} (call : CallF) (md : Bool) (n : Nat) (k : Ex → List AV → Heap → Option β) (x7 x9 x10 x11 x12 x13 : AV) (h : Heap) :
    runK C0 call md 4 n (.region 15 (O4 15) false) k (st 82 [(7, x7), (9, x9), (10, x10), (11, x11), (12, x12), (13, x13)]) h =
    bnd (aBinC tab .add 3 x12 (.int .i64 1) true) fun v1 =>
    bnd (aConv tab 3 5 v1 h) fun v2 =>
    bnd (aLit tab 22 1 [(0, v2)]) fun v3 =>
    bnd2 (aCall call md (.fn (.func 21) []) [v3] h) fun v4 h5 =>
    k .normal (st 82 [(7, x7), (9, x9), (10, x10), (11, x11), (12, x12), (13, x13), (15, v4)]) h5
  := by kernel_rfl
def J4_16_2 {β : Type} (call : CallF) (md : Bool) (k : Ex → List AV → Heap → Option β) (x7 x9 x10 x11 x12 x13 x15 x62 x65 : AV) (h : Heap) : Option β :=
    bnd (aPick x62 x65 (.bool false)) fun v1 =>
    k .normal (st 82 [(7, x7), (9, x9), (10, x10), (11, x11), (12, x12), (13, x13), (15, x15), (66, v1)]) h

theorem j4_16_2 {β : Type} (call : CallF) (md : Bool) (k : Ex → List AV → Heap → Option β) (x7 x9 x10 x11 x12 x13 x15 x59 x60 x61 x62 x63 x64 x65 : AV) (h : Heap) :
    opsK C0 call md 4 (O4 16) ((O4 16).toList.drop 7) (st 82 [(7, x7), (9, x9), (10, x10), (11, x11), (12, x12), (13, x13), (15, x15), (59, x59), (60, x60), (61, x61), (62, x62), (63, x63), (64, x64), (65, x65)]) h (fun tm h => k .normal (clr (C0.keep 4 16) tm) h) = J4_16_2 call md k x7 x9 x10 x11 x12 x13 x15 x62 x65 h := by kernel_rfl
def J4_16_1 {β : Type} (call : CallF) (md : Bool) (k : Ex → List AV → Heap → Option β) (x7 x9 x10 x11 x12 x13 x15 x62 : AV) (h : Heap) : Option β :=
    onB x62 (
      bnd (aBinC tab .lss 3 x12 x10 false) fun v3 =>
      J4_16_2 call md k x7 x9 x10 x11 x12 x13 x15 x62 v3 h) (
      J4_16_2 call md k x7 x9 x10 x11 x12 x13 x15 x62 .undef h)

theorem g4_16_1 {β : Type} (call : CallF) (md : Bool) (kk : List AV → Heap → Option β) (x7 x9 x10 x11 x12 x13 x15 x59 x60 x61 x62 : AV) (h : Heap) :
    opsK C0 call md 4 (O4 16) (((O4 16).toList.drop 4).take 3) (st 82 [(7, x7), (9, x9), (10, x10), (11, x11), (12, x12), (13, x13), (15, x15), (59, x59), (60, x60), (61, x61), (62, x62)]) h kk =
    onB x62 (
      bnd (aBinC tab .lss 3 x12 x10 false) fun v4 =>
      kk (st 82 [(7, x7), (9, x9), (10, x10), (11, x11), (12, x12), (13, x13), (15, x15), (59, x59), (60, x60), (61, x61), (62, x62), (63, x12), (64, x10), (65, v4)]) h) (
      kk (st 82 [(7, x7), (9, x9), (10, x10), (11, x11), (12, x12), (13, x13), (15, x15), (59, x59), (60, x60), (61, x61), (62, x62), (63, .undef), (64, .undef), (65, .undef)]) h)
  := by cases x62 with | bool b => (cases b <;> kernel_rfl) | _ => kernel_rfl
theorem j4_16_1 {β : Type} (call : CallF) (md : Bool) (k : Ex → List AV → Heap → Option β) (x7 x9 x10 x11 x12 x13 x15 x59 x60 x61 x62 : AV) (h : Heap) :
    opsK C0 call md 4 (O4 16) ((O4 16).toList.drop 4) (st 82 [(7, x7), (9, x9), (10, x10), (11, x11), (12, x12), (13, x13), (15, x15), (59, x59), (60, x60), (61, x61), (62, x62)]) h (fun tm h => k .normal (clr (C0.keep 4 16) tm) h) = J4_16_1 call md k x7 x9 x10 x11 x12 x13 x15 x62 h := by
  have e : ((O4 16).toList.drop 4) = ((O4 16).toList.drop 4).take 3 ++ (O4 16).toList.drop 7 := by kernel_rfl
  rw [show opsK C0 call md 4 (O4 16) ((O4 16).toList.drop 4) = opsK C0 call md 4 (O4 16) (((O4 16).toList.drop 4).take 3 ++ (O4 16).toList.drop 7) from congrArg _ e]
  rw [opsK_append, g4_16_1]
  simp only [j4_16_2]
  rfl
def J4_16_0 {β : Type} (call : CallF) (md : Bool) (k : Ex → List AV → Heap → Option β) (x7 x9 x10 x11 x12 x13 x15 : AV) (h : Heap) : Option β :=
    bnd (aBinC tab .geq 3 x12 x9 false) fun v5 =>
    J4_16_1 call md k x7 x9 x10 x11 x12 x13 x15 v5 h

theorem g4_16_0 {β : Type} (call : CallF) (md : Bool) (kk : List AV → Heap → Option β) (x7 x9 x10 x11 x12 x13 x15 : AV) (h : Heap) :
    opsK C0 call md 4 (O4 16) ((O4 16).toList.take 4) (st 82 [(7, x7), (9, x9), (10, x10), (11, x11), (12, x12), (13, x13), (15, x15)]) h kk =
    bnd (aBinC tab .geq 3 x12 x9 false) fun v6 =>
    kk (st 82 [(7, x7), (9, x9), (10, x10), (11, x11), (12, x12), (13, x13), (15, x15), (59, x12), (60, x9), (61, v6), (62, v6)]) h
  := by kernel_rfl
theorem j4_16_0 {β : Type} (call : CallF) (md : Bool) (k : Ex → List AV → Heap → Option β) (x7 x9 x10 x11 x12 x13 x15 : AV) (h : Heap) :
    opsK C0 call md 4 (O4 16) (O4 16).toList (st 82 [(7, x7), (9, x9), (10, x10), (11, x11), (12, x12), (13, x13), (15, x15)]) h (fun tm h => k .normal (clr (C0.keep 4 16) tm) h) = J4_16_0 call md k x7 x9 x10 x11 x12 x13 x15 h := by
  have e : (O4 16).toList = (O4 16).toList.take 4 ++ (O4 16).toList.drop 4 := by kernel_rfl
  rw [show opsK C0 call md 4 (O4 16) (O4 16).toList = opsK C0 call md 4 (O4 16) ((O4 16).toList.take 4 ++ (O4 16).toList.drop 4) from congrArg _ e]
  rw [opsK_append, g4_16_0]
  simp only [j4_16_1]
  rfl
theorem r4_16 {β : Type} (call : CallF) (md : Bool) (n : Nat) (k : Ex → List AV → Heap → Option β) (x7 x9 x10 x11 x12 x13 x15 : AV) (h : Heap) :
    runK C0 call md 4 n (.region 16 (O4 16) false) k (st 82 [(7, x7), (9, x9), (10, x10), (11, x11), (12, x12), (13, x13), (15, x15)]) h = J4_16_0 call md k x7 x9 x10 x11 x12 x13 x15 h := (runK_region C0 call md 4 n 16 (O4 16) k (st 82 [(7, x7), (9, x9), (10, x10), (11, x11), (12, x12), (13, x13), (15, x15)]) h).trans (j4_16_0 call md k x7 x9 x10 x11 x12 x13 x15 h)
theorem r4_17 {β : Type} (call : CallF) (md : Bool) (n : Nat) (k : Ex → List AV → Heap → Option β) (x7 x9 x10 x11 x12 x13 x15 x66 : AV) (h : Heap) :
    runK C0 call md 4 n (.region 17 (O4 17) false) k (st 82 [(7, x7), (9, x9), (10, x10), (11, x11), (12, x12), (13, x13), (15, x15), (66, x66)]) h =
    bnd2 (aCall call md (.fn (.func 21) []) [.nils] h) fun v1 h2 =>
    k .normal (st 82 [(7, x7), (9, x9), (10, x10), (11, x11), (12, x12), (13, x13), (15, v1)]) h2
  := by kernel_rfl
theorem r4_18a {β : Type} (call : CallF) (md : Bool) (n : Nat) (k : Ex → List AV → Heap → Option β) (x7 x9 x10 x11 x12 x13 x15 x66 : AV) (h : Heap) :
    runK C0 call md 4 n (.region 18 (O4 18) false) k (st 82 [(7, x7), (9, x9), (10, x10), (11, x11), (12, x12), (13, x13), (15, x15), (66, x66)]) h =
    bnd2 (aCall call md (.fn (.func 22) []) [x13, x15] h) fun v1 h2 =>
    bnd (aUn .not v1) fun v3 =>
    k .normal (st 82 [(7, x7), (9, x9), (10, x10), (11, x11), (12, x12), (71, v3)]) h2
  := by kernel_rfl
theorem r4_18b {β : Type} (call : CallF) (md : Bool) (n : Nat) (k : Ex → List AV → Heap → Option β) (x7 x9 x10 x11 x12 x13 x15 : AV) (h : Heap) :
    runK C0 call md 4 n (.region 18 (O4 18) false) k (st 82 [(7, x7), (9, x9), (10, x10), (11, x11), (12, x12), (13, x13), (15, x15)]) h =
    bnd2 (aCall call md (.fn (.func 22) []) [x13, x15] h) fun v1 h2 =>
    bnd (aUn .not v1) fun v3 =>
    k .normal (st 82 [(7, x7), (9, x9), (10, x10), (11, x11), (12, x12), (71, v3)]) h2
  := by kernel_rfl
theorem r4_19 {β : Type} (call : CallF) (md : Bool) (n : Nat) (k : Ex → List AV → Heap → Option β) (x7 x9 x10 x11 x12 x71 : AV) (h : Heap) :
    runK C0 call md 4 n (.region 19 (O4 19) false) k (st 82 [(7, x7), (9, x9), (10, x10), (11, x11), (12, x12), (71, x71)]) h =
    k .normal (st 82 [(6, (.bool false))]) h
  := by kernel_rfl
def J4_20_4 {β : Type} (call : CallF) (md : Bool) (k : Ex → List AV → Heap → Option β) (x77 x80 : AV) (h : Heap) : Option β :=
    bnd (aPick x77 x80 (.bool false)) fun v1 =>
    k .normal (st 82 [(6, v1)]) h

theorem j4_20_4 {β : Type} (call : CallF) (md : Bool) (k : Ex → List AV → Heap → Option β) (x7 x9 x10 x11 x12 x45 x72 x73 x74 x75 x76 x77 x78 x79 x80 : AV) (h : Heap) :
    opsK C0 call md 4 (O4 20) ((O4 20).toList.drop 9) (st 82 [(7, x7), (9, x9), (10, x10), (11, x11), (12, x12), (45, x45), (72, x72), (73, x73), (74, x74), (75, x75), (76, x76), (77, x77), (78, x78), (79, x79), (80, x80)]) h (fun tm h => k .normal (clr (C0.keep 4 20) tm) h) = J4_20_4 call md k x77 x80 h := by kernel_rfl
def J4_20_3 {β : Type} (call : CallF) (md : Bool) (k : Ex → List AV → Heap → Option β) (x7 x77 : AV) (h : Heap) : Option β :=
    onB x77 (
      bnd2 (aCall call md (.fn (.func 23) []) [x7] h) fun v3 h4 =>
      bnd (aBinC tab .eql 3 v3 (.int .i64 0) true) fun v5 =>
      J4_20_4 call md k x77 v5 h4) (
      J4_20_4 call md k x77 .undef h)

theorem g4_20_3 {β : Type} (call : CallF) (md : Bool) (kk : List AV → Heap → Option β) (x7 x9 x10 x11 x12 x45 x72 x73 x74 x75 x76 x77 : AV) (h : Heap) :
    opsK C0 call md 4 (O4 20) (((O4 20).toList.drop 6).take 3) (st 82 [(7, x7), (9, x9), (10, x10), (11, x11), (12, x12), (45, x45), (72, x72), (73, x73), (74, x74), (75, x75), (76, x76), (77, x77)]) h kk =
    onB x77 (
      bnd2 (aCall call md (.fn (.func 23) []) [x7] h) fun v6 h7 =>
      bnd (aBinC tab .eql 3 v6 (.int .i64 0) true) fun v8 =>
      kk (st 82 [(7, x7), (9, x9), (10, x10), (11, x11), (12, x12), (45, x45), (72, x72), (73, x73), (74, x74), (75, x75), (76, x76), (77, x77), (78, x7), (79, v6), (80, v8)]) h7) (
      kk (st 82 [(7, x7), (9, x9), (10, x10), (11, x11), (12, x12), (45, x45), (72, x72), (73, x73), (74, x74), (75, x75), (76, x76), (77, x77), (78, .undef), (79, .undef), (80, .undef)]) h)
  := by cases x77 with | bool b => (cases b <;> kernel_rfl) | _ => kernel_rfl
theorem j4_20_3 {β : Type} (call : CallF) (md : Bool) (k : Ex → List AV → Heap → Option β) (x7 x9 x10 x11 x12 x45 x72 x73 x74 x75 x76 x77 : AV) (h : Heap) :
    opsK C0 call md 4 (O4 20) ((O4 20).toList.drop 6) (st 82 [(7, x7), (9, x9), (10, x10), (11, x11), (12, x12), (45, x45), (72, x72), (73, x73), (74, x74), (75, x75), (76, x76), (77, x77)]) h (fun tm h => k .normal (clr (C0.keep 4 20) tm) h) = J4_20_3 call md k x7 x77 h := by
  have e : ((O4 20).toList.drop 6) = ((O4 20).toList.drop 6).take 3 ++ (O4 20).toList.drop 9 := by kernel_rfl
  rw [show opsK C0 call md 4 (O4 20) ((O4 20).toList.drop 6) = opsK C0 call md 4 (O4 20) (((O4 20).toList.drop 6).take 3 ++ (O4 20).toList.drop 9) from congrArg _ e]
  rw [opsK_append, g4_20_3]
  simp only [j4_20_4]
  rfl
def J4_20_2 {β : Type} (call : CallF) (md : Bool) (k : Ex → List AV → Heap → Option β) (x7 x73 x75 : AV) (h : Heap) : Option β :=
    bnd (aPick x73 x75 (.bool false)) fun v9 =>
    J4_20_3 call md k x7 v9 h

theorem g4_20_2 {β : Type} (call : CallF) (md : Bool) (kk : List AV → Heap → Option β) (x7 x9 x10 x11 x12 x45 x72 x73 x74 x75 : AV) (h : Heap) :
    opsK C0 call md 4 (O4 20) (((O4 20).toList.drop 4).take 2) (st 82 [(7, x7), (9, x9), (10, x10), (11, x11), (12, x12), (45, x45), (72, x72), (73, x73), (74, x74), (75, x75)]) h kk =
    bnd (aPick x73 x75 (.bool false)) fun v10 =>
    kk (st 82 [(7, x7), (9, x9), (10, x10), (11, x11), (12, x12), (45, x45), (72, x72), (73, x73), (74, x74), (75, x75), (76, v10), (77, v10)]) h
  := by kernel_rfl
theorem j4_20_2 {β : Type} (call : CallF) (md : Bool) (k : Ex → List AV → Heap → Option β) (x7 x9 x10 x11 x12 x45 x72 x73 x74 x75 : AV) (h : Heap) :
    opsK C0 call md 4 (O4 20) ((O4 20).toList.drop 4) (st 82 [(7, x7), (9, x9), (10, x10), (11, x11), (12, x12), (45, x45), (72, x72), (73, x73), (74, x74), (75, x75)]) h (fun tm h => k .normal (clr (C0.keep 4 20) tm) h) = J4_20_2 call md k x7 x73 x75 h := by
  have e : ((O4 20).toList.drop 4) = ((O4 20).toList.drop 4).take 2 ++ (O4 20).toList.drop 6 := by kernel_rfl
  rw [show opsK C0 call md 4 (O4 20) ((O4 20).toList.drop 4) = opsK C0 call md 4 (O4 20) (((O4 20).toList.drop 4).take 2 ++ (O4 20).toList.drop 6) from congrArg _ e]
  rw [opsK_append, g4_20_2]
  simp only [j4_20_3]
  rfl
def J4_20_1 {β : Type} (call : CallF) (md : Bool) (k : Ex → List AV → Heap → Option β) (x7 x11 x73 : AV) (h : Heap) : Option β :=
    onB x73 (
      bnd (aBinC tab .eql 27 x11 (.int .i64 0) true) fun v11 =>
      J4_20_2 call md k x7 x73 v11 h) (
      J4_20_2 call md k x7 x73 .undef h)

theorem g4_20_1 {β : Type} (call : CallF) (md : Bool) (kk : List AV → Heap → Option β) (x7 x9 x10 x11 x12 x45 x72 x73 : AV) (h : Heap) :
    opsK C0 call md 4 (O4 20) (((O4 20).toList.drop 2).take 2) (st 82 [(7, x7), (9, x9), (10, x10), (11, x11), (12, x12), (45, x45), (72, x72), (73, x73)]) h kk =
    onB x73 (
      bnd (aBinC tab .eql 27 x11 (.int .i64 0) true) fun v12 =>
      kk (st 82 [(7, x7), (9, x9), (10, x10), (11, x11), (12, x12), (45, x45), (72, x72), (73, x73), (74, x11), (75, v12)]) h) (
      kk (st 82 [(7, x7), (9, x9), (10, x10), (11, x11), (12, x12), (45, x45), (72, x72), (73, x73), (74, .undef), (75, .undef)]) h)
  := by cases x73 with | bool b => (cases b <;> kernel_rfl) | _ => kernel_rfl
theorem j4_20_1 {β : Type} (call : CallF) (md : Bool) (k : Ex → List AV → Heap → Option β) (x7 x9 x10 x11 x12 x45 x72 x73 : AV) (h : Heap) :
    opsK C0 call md 4 (O4 20) ((O4 20).toList.drop 2) (st 82 [(7, x7), (9, x9), (10, x10), (11, x11), (12, x12), (45, x45), (72, x72), (73, x73)]) h (fun tm h => k .normal (clr (C0.keep 4 20) tm) h) = J4_20_1 call md k x7 x11 x73 h := by
  have e : ((O4 20).toList.drop 2) = ((O4 20).toList.drop 2).take 2 ++ (O4 20).toList.drop 4 := by kernel_rfl
  rw [show opsK C0 call md 4 (O4 20) ((O4 20).toList.drop 2) = opsK C0 call md 4 (O4 20) (((O4 20).toList.drop 2).take 2 ++ (O4 20).toList.drop 4) from congrArg _ e]
  rw [opsK_append, g4_20_1]
  simp only [j4_20_2]
  rfl
def J4_20_0 {β : Type} (call : CallF) (md : Bool) (k : Ex → List AV → Heap → Option β) (x7 x11 : AV) (h : Heap) : Option β :=
    bnd2 (aCall call md (.fn (.func 12) []) [] h) fun v13 h14 =>
    J4_20_1 call md k x7 x11 v13 h14

theorem g4_20_0 {β : Type} (call : CallF) (md : Bool) (kk : List AV → Heap → Option β) (x7 x9 x10 x11 x12 x45 : AV) (h : Heap) :
    opsK C0 call md 4 (O4 20) ((O4 20).toList.take 2) (st 82 [(7, x7), (9, x9), (10, x10), (11, x11), (12, x12), (45, x45)]) h kk =
    bnd2 (aCall call md (.fn (.func 12) []) [] h) fun v15 h16 =>
    kk (st 82 [(7, x7), (9, x9), (10, x10), (11, x11), (12, x12), (45, x45), (72, v15), (73, v15)]) h16
  := by kernel_rfl
theorem j4_20_0 {β : Type} (call : CallF) (md : Bool) (k : Ex → List AV → Heap → Option β) (x7 x9 x10 x11 x12 x45 : AV) (h : Heap) :
    opsK C0 call md 4 (O4 20) (O4 20).toList (st 82 [(7, x7), (9, x9), (10, x10), (11, x11), (12, x12), (45, x45)]) h (fun tm h => k .normal (clr (C0.keep 4 20) tm) h) = J4_20_0 call md k x7 x11 h := by
  have e : (O4 20).toList = (O4 20).toList.take 2 ++ (O4 20).toList.drop 2 := by kernel_rfl
  rw [show opsK C0 call md 4 (O4 20) (O4 20).toList = opsK C0 call md 4 (O4 20) ((O4 20).toList.take 2 ++ (O4 20).toList.drop 2) from congrArg _ e]
  rw [opsK_append, g4_20_0]
  simp only [j4_20_1]
  rfl
theorem r4_20 {β : Type} (call : CallF) (md : Bool) (n : Nat) (k : Ex → List AV → Heap → Option β) (x7 x9 x10 x11 x12 x45 : AV) (h : Heap) :
    runK C0 call md 4 n (.region 20 (O4 20) false) k (st 82 [(7, x7), (9, x9), (10, x10), (11, x11), (12, x12), (45, x45)]) h = J4_20_0 call md k x7 x11 h := (runK_region C0 call md 4 n 20 (O4 20) k (st 82 [(7, x7), (9, x9), (10, x10), (11, x11), (12, x12), (45, x45)]) h).trans (j4_20_0 call md k x7 x9 x10 x11 x12 x45 h)
end Go.Ax

/- RegionClean: its run comes to true. -/
namespace Go.Ax
open Go Go.Proofs

theorem land_map (l : List (List UInt8)) (f : Nat → List UInt8) (i : Nat) : ∀ (m j : Nat), i + m ≤ l.length →
    (land l ((List.range' i m).map fun j => (j, f j)))[j]? = if i ≤ j ∧ j < i + m then some (f j) else l[j]? := by
  intro m
  induction m with
  | zero => intro j _; rw [if_neg (by omega)]; simp [land]
  | succ m ih =>
    intro j h
    rw [List.range'_concat, List.map_append, List.map_cons, List.map_nil, land_snoc]
    simp only [Nat.one_mul]
    by_cases hj : i + m = j
    · subst hj
      rw [List.getElem?_set_self (by rw [land_length]; omega), if_pos (by omega)]
    · rw [List.getElem?_set_ne hj, ih j (by omega)]
      by_cases h2 : i ≤ j ∧ j < i + m
      · rw [if_pos h2, if_pos (by omega)]
      · rw [if_neg h2, if_neg (by omega)]

theorem calm_cleanLoop (l : List (List UInt8)) : ∀ (m i : Nat) (s : Bool) (ws : List (Nat × List UInt8)), i + m ≤ l.length → (∀ j, i ≤ j → (land l ws)[j]? = l[j]?) →
    (∀ j, i ≤ j → j < i + m → ((l[j]?).getD []).all (· == 0) = false) →
    cleanLoop m i s ⟨l, ws, -1, false⟩ = (0, s || decide (0 < m), ⟨l, ws ++ (List.range' i m).map (fun j => (j, pad [])), -1, false⟩) := by
  intro m
  induction m with
  | zero => intro i s ws _ _ _; simp [cleanLoop]
  | succ m ih =>
    intro i s ws hl hw hz
    have w := calm_write l ws i [] (by omega) (by simp)
    have h1 : (((⟨l, ws, -1, false⟩ : Dk).now[i]?).getD []).all (· == 0) = false := by
      show ((land l ws)[i]?.getD []).all (· == 0) = false
      rw [hw i (Nat.le_refl _)]
      exact hz i (Nat.le_refl _) (by omega)
    rw [cleanLoop_go h1 (by rw [w]), w, ih (i + 1) true _ (by omega) (fun j hj => ?_) (fun j h1 h2 => hz j (by omega) (by omega)), List.range'_succ]
    · simp
    · rw [land_snoc, List.getElem?_set_ne (by simp only; omega)]
      exact hw j (by omega)

theorem clean_eq {d : Dk} {a e : Int} {r : Int × Bool × Dk} (h : cleanLoop (min e d.lasts.length - max a 0).toNat (max a 0).toNat false d = r) :
    d.clean a e = if r.1 ≠ 0 then (r.1, r.2.2) else if r.2.1 then r.2.2.flush else (0, r.2.2) := by subst h; rfl

theorem calm_clean (l : List (List UInt8)) (f m : Nat) (e : Int) (hm : m = (min e l.length - max (f : Int) 0).toNat) (hz : ∀ j, f ≤ j → j < f + m → ((l[j]?).getD []).all (· == 0) = false) :
    (Calm l).clean f e = (0, Calm (land l ((List.range' f m).map fun j => (j, pad [])))) := by
  have hf : (max (f : Int) 0).toNat = f := by omega
  by_cases h0 : m = 0
  · have h1 : cleanLoop (min e (Calm l).lasts.length - max (f : Int) 0).toNat (max (f : Int) 0).toNat false (Calm l) = (0, false, Calm l) := by
      rw [show (Calm l).lasts.length = l.length from rfl, ← hm, h0]; rfl
    rw [clean_eq h1, if_neg (fun h => h rfl), if_neg Bool.false_ne_true, h0]
    rfl
  · have h1 := calm_cleanLoop l m f false [] (by omega) (fun j _ => rfl) hz
    have h2 : cleanLoop (min e (Calm l).lasts.length - max (f : Int) 0).toNat (max (f : Int) 0).toNat false (Calm l) = (0, false || decide (0 < m), ⟨l, [] ++ (List.range' f m).map (fun j => (j, pad [])), -1, false⟩) := by
      rw [show (Calm l).lasts.length = l.length from rfl, ← hm, hf]; exact h1
    rw [clean_eq h2]
    simp only [List.nil_append, calm_flush]
    rw [if_neg (fun h => h rfl), if_pos (by simp; omega)]

/-! ### The sectors of the law -/
def bl20 : List (List UInt8) := List.replicate 20 (List.replicate 64 0)
def byteAt (i : Nat) : UInt8 := UInt8.ofNat (i + 1)
def full (i : Nat) : List (Nat × List UInt8) := (List.range' 0 i).map fun j => (j, pad [byteAt j])
theorem full_succ (i : Nat) : full (i + 1) = full i ++ [(i, pad [byteAt i])] := by simp [full, List.range'_concat]
def l1 : List (List UInt8) := land bl20 (full 20)
theorem l1_length : l1.length = 20 := land_length _ _
theorem l1_get (j : Nat) (hj : j < 20) : l1[j]? = some (pad [byteAt j]) := by
  rw [l1, full, land_map bl20 (fun j => pad [byteAt j]) 0 20 j (by decide), if_pos (by omega)]
theorem byteAt_ne : ∀ j < 20, (pad [byteAt j]).all (· == 0) = false := by decide
def l2 (f t : Nat) : List (List UInt8) := land l1 ((List.range' f (min (t : Int) 20 - max (f : Int) 0).toNat).map fun j => (j, pad []))
theorem l2_length (f t : Nat) : (l2 f t).length = 20 := (land_length _ _).trans l1_length
theorem clean_l1 (f t : Nat) : (Calm l1).clean f t = (0, Calm (l2 f t)) := calm_clean l1 f _ t (by rw [l1_length]; rfl) fun j h1 h2 => by
  rw [l1_get j (by omega)]; exact byteAt_ne j (by omega)
theorem l2_get (f t j : Nat) (hj : j < 20) : (l2 f t)[j]? = some (if f ≤ j ∧ j < t then pad [] else pad [byteAt j]) := by
  unfold l2
  by_cases hm : f < 20
  · rw [land_map l1 (fun _ => pad []) f _ j (by rw [l1_length]; omega)]
    by_cases h : f ≤ j ∧ j < t
    · rw [if_pos h, if_pos (by omega)]
    · rw [if_neg h, if_neg (by omega), l1_get j hj]
  · rw [show (min (t : Int) 20 - max (f : Int) 0).toNat = 0 by omega, if_neg (by omega)]
    exact l1_get j hj

theorem conv_64_8 (i : Nat) (h : Heap) : aConv tab 3 5 (.int .i64 ((i + 1 : Nat) : Int)) h = some (U8 (byteAt i)) := by
  simp [aConv, U8, byteAt, wrap_u8]
  try omega
theorem conv_8_64 (n : Nat) (hn : n < 256) (h : Heap) : aConv tab 5 3 (.int .u8 n) h = some (.int .i64 n) := by
  simp [aConv]
  exact wrap_i64 (by omega) (by omega)
theorem rem_u8 (a : Nat) : aBinC tab .rem 5 (.int .u8 a) (.int .u8 24) true = some (.int .u8 ((a % 24 : Nat) : Int)) := by
  simp [aBinC, aBin, Go.binOp, Op.intDiv, ofPure, pure, wrap_u8]
  rw [Int.tmod_eq_emod_of_nonneg (by omega)]
  try omega

theorem lit22_one (b : UInt8) : aLit tab 22 1 [(0, U8 b)] = some (.vsl 5 [U8 b] .exact) := lit22_1 (U8 b) rfl
theorem one_bs (b : UInt8) : Bs (.vsl 5 [U8 b] .exact) [b] := .inr ⟨_, rfl⟩

theorem loop1_4 {S : Obs} {p r : Nat} (x1 x2 : AV) (N : Nat) : ∀ (m i n : Nat) (h : Heap), i + m = 20 → m < n → Up S h → Dsk S h p r ⟨bl20, full i, -1, false⟩ →
    ∃ h', (∀ K : Ex → List AV → Heap → Option (AV × Heap), loopK (fun next => runK C0 (exFn C0 E0 (N + 3)) false 4 (N + 3) B4_1 (seqE next K)) n (st 82 [(1, x1), (2, x2), (7, dp p), (8, .int .i64 i)]) h =
      K (.exit 0) (st 82 [(1, x1), (2, x2), (7, dp p), (8, .int .i64 20), (22, .bool false)]) h') ∧ Dsk S h' p r ⟨bl20, full 20, -1, false⟩ ∧ Keep S h h' := by
  intro m
  induction m with
  | zero =>
    intro i n h hi hn up D
    obtain ⟨n, rfl⟩ : ∃ j, n = j + 1 := ⟨n - 1, by omega⟩
    obtain rfl : i = 20 := by omega
    refine ⟨h, fun K => ?_, D, Keep.refl _ _⟩
    rw [loopK_succ]
    generalize loopK (_ : (List AV → Heap → Option (AV × Heap)) → List AV → Heap → Option (AV × Heap)) n = Lp
    have e : decide (((20 : Nat) : Int) < 20) = false := by decide
    simp -implicitDefEqProofs only [B4_1, ↓runK_seq, runK_seq, ↓runK_cond, runK_cond, ↓runK_block, runK_block, ↓runK_loop, runK_loop, ↓runK_skip, runK_skip, ↓runK_ret, runK_ret, ↓runK_exit, runK_exit, ↓seqE_n, seqE_n, ↓seqE_e, seqE_e, ↓seqE_r, seqE_r, ↓blkE_n, blkE_n, ↓blkE_e, blkE_e, ↓blkE_r, blkE_r, ↓retK_n, retK_n, ↓retK_r, retK_r, ↓aCall_fn, aCall_fn, ↓bnd_s, bnd_s, ↓bnd2_s, bnd2_s, ↓onB_t, onB_t, ↓onB_f, onB_f, ↓onT_t, onT_t, ↓aPick_t, aPick_t, ↓aPick_f, aPick_f, decide_true, decide_false, st_tmp, results1, results2, List.lookup_cons, List.lookup_nil, Nat.reduceBEq, Bool.false_eq_true, ↓reduceIte, BEq.rfl, Nat.reduceLT, Option.getD_some, Option.getD_none, ↓r4_0, r4_0, ↓r4_1, r4_1, ↓r4_2, r4_2, ↓r4_3, r4_3, ↓r4_4, r4_4, ↓r4_5, r4_5, ↓r4_6, r4_6, ↓r4_7, r4_7, ↓r4_8, r4_8, ↓r4_9, r4_9, ↓r4_10, r4_10, ↓r4_11, r4_11, ↓r4_12, r4_12, ↓r4_13, r4_13, ↓r4_14, r4_14, ↓r4_15, r4_15, ↓r4_16, r4_16, J4_16_0, J4_16_1, J4_16_2, ↓r4_17, r4_17, ↓r4_18a, r4_18a, ↓r4_18b, r4_18b, ↓r4_19, r4_19, ↓r4_20, r4_20, J4_20_0, J4_20_1, J4_20_2, J4_20_3, J4_20_4, bin_lss, e]
    rfl
  | succ m ih =>
    intro i n h hi hn up D
    obtain ⟨n, rfl⟩ : ∃ j, n = j + 1 := ⟨n - 1, by omega⟩
    have e : decide ((i : Int) < 20) = true := decide_eq_true (by omega)
    have wr : IntKind.i64.wrap ((i : Int) + 1) = ((i + 1 : Nat) : Int) := by rw [wrap_i64] <;> omega
    have hfl : (full i).length = i := by simp [full]
    obtain ⟨h2, w1, D2, k2⟩ := write_ok D up (i : Int) (U := fun _ => False) (.inl (one_bs (byteAt i))) (fun _ _ h => h.elim) (by show (full i).length < _; omega) (by show (-1 : Int) < _; decide) N
    have cw := calm_write bl20 (full i) i [byteAt i] (by show i < 20; omega) (by simp)
    rw [cw, ← full_succ] at w1 D2
    obtain ⟨h3, g1, g2, g3⟩ := ih (i + 1) n h2 (by omega) (by omega) (up.keep k2) D2
    refine ⟨h3, fun K => ?_, g2, k2.trans g3⟩
    rw [loopK_succ, ← g1 K]
    generalize loopK (_ : (List AV → Heap → Option (AV × Heap)) → List AV → Heap → Option (AV × Heap)) n = Lp
    simp -implicitDefEqProofs only [B4_1, ↓runK_seq, runK_seq, ↓runK_cond, runK_cond, ↓runK_block, runK_block, ↓runK_loop, runK_loop, ↓runK_skip, runK_skip, ↓runK_ret, runK_ret, ↓runK_exit, runK_exit, ↓seqE_n, seqE_n, ↓seqE_e, seqE_e, ↓seqE_r, seqE_r, ↓blkE_n, blkE_n, ↓blkE_e, blkE_e, ↓blkE_r, blkE_r, ↓retK_n, retK_n, ↓retK_r, retK_r, ↓aCall_fn, aCall_fn, ↓bnd_s, bnd_s, ↓bnd2_s, bnd2_s, ↓onB_t, onB_t, ↓onB_f, onB_f, ↓onT_t, onT_t, ↓aPick_t, aPick_t, ↓aPick_f, aPick_f, decide_true, decide_false, st_tmp, results1, results2, List.lookup_cons, List.lookup_nil, Nat.reduceBEq, Bool.false_eq_true, ↓reduceIte, BEq.rfl, Nat.reduceLT, Option.getD_some, Option.getD_none, ↓r4_0, r4_0, ↓r4_1, r4_1, ↓r4_2, r4_2, ↓r4_3, r4_3, ↓r4_4, r4_4, ↓r4_5, r4_5, ↓r4_6, r4_6, ↓r4_7, r4_7, ↓r4_8, r4_8, ↓r4_9, r4_9, ↓r4_10, r4_10, ↓r4_11, r4_11, ↓r4_12, r4_12, ↓r4_13, r4_13, ↓r4_14, r4_14, ↓r4_15, r4_15, ↓r4_16, r4_16, J4_16_0, J4_16_1, J4_16_2, ↓r4_17, r4_17, ↓r4_18a, r4_18a, ↓r4_18b, r4_18b, ↓r4_19, r4_19, ↓r4_20, r4_20, J4_20_0, J4_20_1, J4_20_2, J4_20_3, J4_20_4, bin_lss, e, bin_add, wr, conv_64_8 i, lit22_one, w1]

theorem loop2_4 {S : Obs} {p r : Nat} (f t : Nat) (x11 : AV) (N : Nat) (hN : 80 < N) : ∀ (m i n : Nat) (h : Heap), i + m = 20 → m < n → Dsk S h p r (Calm (l2 f t)) →
    ∃ h', (∀ K : Ex → List AV → Heap → Option (AV × Heap), loopK (fun next => runK C0 (exFn C0 E0 (N + 3)) false 4 (N + 3) B4_2 (seqE next K)) n (st 82 [(7, dp p), (9, .int .i64 f), (10, .int .i64 t), (11, x11), (12, .int .i64 i)]) h =
      K (.exit 2) (st 82 [(7, dp p), (9, .int .i64 f), (10, .int .i64 t), (11, x11), (12, .int .i64 20), (45, .bool false)]) h') ∧ Dsk S h' p r (Calm (l2 f t)) ∧ Keep (From h.length) h h' := by
  intro m
  induction m with
  | zero =>
    intro i n h hi hn D
    obtain ⟨n, rfl⟩ : ∃ j, n = j + 1 := ⟨n - 1, by omega⟩
    obtain rfl : i = 20 := by omega
    refine ⟨h, fun K => ?_, D, Keep.refl _ _⟩
    rw [loopK_succ]
    generalize loopK (_ : (List AV → Heap → Option (AV × Heap)) → List AV → Heap → Option (AV × Heap)) n = Lp
    have e : decide (((20 : Nat) : Int) < 20) = false := by decide
    simp -implicitDefEqProofs only [B4_2, ↓runK_seq, runK_seq, ↓runK_cond, runK_cond, ↓runK_block, runK_block, ↓runK_loop, runK_loop, ↓runK_skip, runK_skip, ↓runK_ret, runK_ret, ↓runK_exit, runK_exit, ↓seqE_n, seqE_n, ↓seqE_e, seqE_e, ↓seqE_r, seqE_r, ↓blkE_n, blkE_n, ↓blkE_e, blkE_e, ↓blkE_r, blkE_r, ↓retK_n, retK_n, ↓retK_r, retK_r, ↓aCall_fn, aCall_fn, ↓bnd_s, bnd_s, ↓bnd2_s, bnd2_s, ↓onB_t, onB_t, ↓onB_f, onB_f, ↓onT_t, onT_t, ↓aPick_t, aPick_t, ↓aPick_f, aPick_f, decide_true, decide_false, st_tmp, results1, results2, List.lookup_cons, List.lookup_nil, Nat.reduceBEq, Bool.false_eq_true, ↓reduceIte, BEq.rfl, Nat.reduceLT, Option.getD_some, Option.getD_none, ↓r4_0, r4_0, ↓r4_1, r4_1, ↓r4_2, r4_2, ↓r4_3, r4_3, ↓r4_4, r4_4, ↓r4_5, r4_5, ↓r4_6, r4_6, ↓r4_7, r4_7, ↓r4_8, r4_8, ↓r4_9, r4_9, ↓r4_10, r4_10, ↓r4_11, r4_11, ↓r4_12, r4_12, ↓r4_13, r4_13, ↓r4_14, r4_14, ↓r4_15, r4_15, ↓r4_16, r4_16, J4_16_0, J4_16_1, J4_16_2, ↓r4_17, r4_17, ↓r4_18a, r4_18a, ↓r4_18b, r4_18b, ↓r4_19, r4_19, ↓r4_20, r4_20, J4_20_0, J4_20_1, J4_20_2, J4_20_3, J4_20_4, bin_lss, e]
    rfl
  | succ m ih =>
    intro i n h hi hn D
    obtain ⟨n, rfl⟩ : ∃ j, n = j + 1 := ⟨n - 1, by omega⟩
    have e : decide ((i : Int) < 20) = true := decide_eq_true (by omega)
    have wr : IntKind.i64.wrap ((i : Int) + 1) = ((i + 1 : Nat) : Int) := by rw [wrap_i64] <;> omega
    obtain ⟨y, h1, r1, r2, k1⟩ := lasts_ok D (i : Int) N
    have hla : (Calm (l2 f t)).lastsAt (i : Int) = (if f ≤ i ∧ i < t then pad [] else pad [byteAt i], 0) := by
      unfold Dk.lastsAt
      rw [if_pos ⟨by omega, by show (i : Int) < ((l2 f t).length : Nat); rw [l2_length]; omega⟩, Int.toNat_natCast, show (Calm (l2 f t)).lasts = l2 f t from rfl, l2_get f t i (by omega)]
      rfl
    rw [hla] at r1 r2
    have by1 : Bs y (if f ≤ i ∧ i < t then pad [] else pad [byteAt i]) := r2.bs
    obtain ⟨h2, f1, k2⟩ := fill_ok (h := h1) (U := fun _ => False) (.inl (one_bs (byteAt i))) (by simp) (N + 2)
    have up := Up.fresh h
    have k12 := k1.fresh k2 up
    by_cases c : f ≤ i ∧ i < t
    · have e1 : decide ((f : Int) ≤ (i : Int)) = true := decide_eq_true (by omega)
      have e2 : decide ((i : Int) < (t : Int)) = true := decide_eq_true (by omega)
      rw [if_pos c] at by1
      obtain ⟨h3, f3, k3⟩ := fill_ok (h := h2) (U := fun _ => False) (x := .nils) (b := []) (.inl (.inl ⟨rfl, rfl⟩)) (by simp) (N + 2)
      have sm := same_ok by1 (show Bs (.vsl 5 ((pad []).map U8) .none) (pad []) from .inr ⟨_, rfl⟩) (by decide) false h3 (N + 3) (by simp [pad]; omega)
      rw [decide_eq_true rfl] at sm
      have k13 := k12.fresh k3 up
      obtain ⟨h4, g1, g2, g3⟩ := ih (i + 1) n h3 (by omega) (by omega) (D.fresh k13)
      refine ⟨h4, fun K => ?_, g2, k13.fresh g3 up⟩
      rw [loopK_succ, ← g1 K]
      generalize loopK (_ : (List AV → Heap → Option (AV × Heap)) → List AV → Heap → Option (AV × Heap)) n = Lp
      simp -implicitDefEqProofs only [B4_2, ↓runK_seq, runK_seq, ↓runK_cond, runK_cond, ↓runK_block, runK_block, ↓runK_loop, runK_loop, ↓runK_skip, runK_skip, ↓runK_ret, runK_ret, ↓runK_exit, runK_exit, ↓seqE_n, seqE_n, ↓seqE_e, seqE_e, ↓seqE_r, seqE_r, ↓blkE_n, blkE_n, ↓blkE_e, blkE_e, ↓blkE_r, blkE_r, ↓retK_n, retK_n, ↓retK_r, retK_r, ↓aCall_fn, aCall_fn, ↓bnd_s, bnd_s, ↓bnd2_s, bnd2_s, ↓onB_t, onB_t, ↓onB_f, onB_f, ↓onT_t, onT_t, ↓aPick_t, aPick_t, ↓aPick_f, aPick_f, decide_true, decide_false, st_tmp, results1, results2, List.lookup_cons, List.lookup_nil, Nat.reduceBEq, Bool.false_eq_true, ↓reduceIte, BEq.rfl, Nat.reduceLT, Option.getD_some, Option.getD_none, ↓r4_0, r4_0, ↓r4_1, r4_1, ↓r4_2, r4_2, ↓r4_3, r4_3, ↓r4_4, r4_4, ↓r4_5, r4_5, ↓r4_6, r4_6, ↓r4_7, r4_7, ↓r4_8, r4_8, ↓r4_9, r4_9, ↓r4_10, r4_10, ↓r4_11, r4_11, ↓r4_12, r4_12, ↓r4_13, r4_13, ↓r4_14, r4_14, ↓r4_15, r4_15, ↓r4_16, r4_16, J4_16_0, J4_16_1, J4_16_2, ↓r4_17, r4_17, ↓r4_18a, r4_18a, ↓r4_18b, r4_18b, ↓r4_19, r4_19, ↓r4_20, r4_20, J4_20_0, J4_20_1, J4_20_2, J4_20_3, J4_20_4, bin_lss, e, r1, ext0, ext1, bin_add, wr, conv_64_8 i, lit22_one, f1, bin_geq, e1, e2, f3, sm, un_not, Bool.not_true]
    · rw [if_neg c] at by1
      have sm := same_ok by1 (show Bs (.vsl 5 ((pad [byteAt i]).map U8) .none) (pad [byteAt i]) from .inr ⟨_, rfl⟩) (by simp [pad]) false h2 (N + 3) (by simp [pad]; omega)
      rw [decide_eq_true rfl] at sm
      obtain ⟨h4, g1, g2, g3⟩ := ih (i + 1) n h2 (by omega) (by omega) (D.fresh k12)
      refine ⟨h4, fun K => ?_, g2, k12.fresh g3 up⟩
      rw [loopK_succ, ← g1 K]
      generalize loopK (_ : (List AV → Heap → Option (AV × Heap)) → List AV → Heap → Option (AV × Heap)) n = Lp
      by_cases c1 : f ≤ i
      · have e1 : decide ((f : Int) ≤ (i : Int)) = true := decide_eq_true (by omega)
        have e2 : decide ((i : Int) < (t : Int)) = false := decide_eq_false (by omega)
        simp -implicitDefEqProofs only [B4_2, ↓runK_seq, runK_seq, ↓runK_cond, runK_cond, ↓runK_block, runK_block, ↓runK_loop, runK_loop, ↓runK_skip, runK_skip, ↓runK_ret, runK_ret, ↓runK_exit, runK_exit, ↓seqE_n, seqE_n, ↓seqE_e, seqE_e, ↓seqE_r, seqE_r, ↓blkE_n, blkE_n, ↓blkE_e, blkE_e, ↓blkE_r, blkE_r, ↓retK_n, retK_n, ↓retK_r, retK_r, ↓aCall_fn, aCall_fn, ↓bnd_s, bnd_s, ↓bnd2_s, bnd2_s, ↓onB_t, onB_t, ↓onB_f, onB_f, ↓onT_t, onT_t, ↓aPick_t, aPick_t, ↓aPick_f, aPick_f, decide_true, decide_false, st_tmp, results1, results2, List.lookup_cons, List.lookup_nil, Nat.reduceBEq, Bool.false_eq_true, ↓reduceIte, BEq.rfl, Nat.reduceLT, Option.getD_some, Option.getD_none, ↓r4_0, r4_0, ↓r4_1, r4_1, ↓r4_2, r4_2, ↓r4_3, r4_3, ↓r4_4, r4_4, ↓r4_5, r4_5, ↓r4_6, r4_6, ↓r4_7, r4_7, ↓r4_8, r4_8, ↓r4_9, r4_9, ↓r4_10, r4_10, ↓r4_11, r4_11, ↓r4_12, r4_12, ↓r4_13, r4_13, ↓r4_14, r4_14, ↓r4_15, r4_15, ↓r4_16, r4_16, J4_16_0, J4_16_1, J4_16_2, ↓r4_17, r4_17, ↓r4_18a, r4_18a, ↓r4_18b, r4_18b, ↓r4_19, r4_19, ↓r4_20, r4_20, J4_20_0, J4_20_1, J4_20_2, J4_20_3, J4_20_4, bin_lss, e, r1, ext0, ext1, bin_add, wr, conv_64_8 i, lit22_one, f1, bin_geq, e1, e2, sm, un_not, Bool.not_true]
      · have e1 : decide ((f : Int) ≤ (i : Int)) = false := decide_eq_false (by omega)
        simp -implicitDefEqProofs only [B4_2, ↓runK_seq, runK_seq, ↓runK_cond, runK_cond, ↓runK_block, runK_block, ↓runK_loop, runK_loop, ↓runK_skip, runK_skip, ↓runK_ret, runK_ret, ↓runK_exit, runK_exit, ↓seqE_n, seqE_n, ↓seqE_e, seqE_e, ↓seqE_r, seqE_r, ↓blkE_n, blkE_n, ↓blkE_e, blkE_e, ↓blkE_r, blkE_r, ↓retK_n, retK_n, ↓retK_r, retK_r, ↓aCall_fn, aCall_fn, ↓bnd_s, bnd_s, ↓bnd2_s, bnd2_s, ↓onB_t, onB_t, ↓onB_f, onB_f, ↓onT_t, onT_t, ↓aPick_t, aPick_t, ↓aPick_f, aPick_f, decide_true, decide_false, st_tmp, results1, results2, List.lookup_cons, List.lookup_nil, Nat.reduceBEq, Bool.false_eq_true, ↓reduceIte, BEq.rfl, Nat.reduceLT, Option.getD_some, Option.getD_none, ↓r4_0, r4_0, ↓r4_1, r4_1, ↓r4_2, r4_2, ↓r4_3, r4_3, ↓r4_4, r4_4, ↓r4_5, r4_5, ↓r4_6, r4_6, ↓r4_7, r4_7, ↓r4_8, r4_8, ↓r4_9, r4_9, ↓r4_10, r4_10, ↓r4_11, r4_11, ↓r4_12, r4_12, ↓r4_13, r4_13, ↓r4_14, r4_14, ↓r4_15, r4_15, ↓r4_16, r4_16, J4_16_0, J4_16_1, J4_16_2, ↓r4_17, r4_17, ↓r4_18a, r4_18a, ↓r4_18b, r4_18b, ↓r4_19, r4_19, ↓r4_20, r4_20, J4_20_0, J4_20_1, J4_20_2, J4_20_3, J4_20_4, bin_lss, e, r1, ext0, ext1, bin_add, wr, conv_64_8 i, lit22_one, f1, bin_geq, e1, sm, un_not, Bool.not_true]

theorem clean_law (h : Heap) {x : AV} {b : List UInt8} (hx : Bs x b) (f t : Nat) (k : Nat) (hk : 9200 < k) :
    ∃ h', exFn C0 E0 (k + 1) false 4 [x, .int .u8 f, .int .u8 t] h = some (.bool true, h') := by
  obtain ⟨k, rfl⟩ : ∃ j, k = j + 3 := ⟨k - 3, by omega⟩
  have n0 : ([x, .int .u8 f, .int .u8 t] ++ List.replicate (82 - [x, AV.int .u8 f, .int .u8 t].length) AV.undef) = st 82 [(0, x), (1, .int .u8 f), (2, .int .u8 t)] := rfl
  by_cases q1 : 300 < b.length
  · obtain ⟨ha, a1, ka⟩ := answers_ok h (k + 2) (by omega)
    have e1 : decide ((300 : Int) < (b.length : Nat)) = true := decide_eq_true (by omega)
    refine ⟨ha, exFn_of e4 ?_⟩
    rw [fnK, n0, s4]
    simp -implicitDefEqProofs only [↓runK_seq, runK_seq, ↓runK_cond, runK_cond, ↓runK_block, runK_block, ↓runK_loop, runK_loop, ↓runK_skip, runK_skip, ↓runK_ret, runK_ret, ↓runK_exit, runK_exit, ↓seqE_n, seqE_n, ↓seqE_e, seqE_e, ↓seqE_r, seqE_r, ↓blkE_n, blkE_n, ↓blkE_e, blkE_e, ↓blkE_r, blkE_r, ↓retK_n, retK_n, ↓retK_r, retK_r, ↓aCall_fn, aCall_fn, ↓bnd_s, bnd_s, ↓bnd2_s, bnd2_s, ↓onB_t, onB_t, ↓onB_f, onB_f, ↓onT_t, onT_t, ↓aPick_t, aPick_t, ↓aPick_f, aPick_f, decide_true, decide_false, st_tmp, results1, results2, List.lookup_cons, List.lookup_nil, Nat.reduceBEq, Bool.false_eq_true, ↓reduceIte, BEq.rfl, Nat.reduceLT, Option.getD_some, Option.getD_none, ↓r4_0, r4_0, ↓r4_1, r4_1, ↓r4_2, r4_2, ↓r4_3, r4_3, ↓r4_4, r4_4, ↓r4_5, r4_5, ↓r4_6, r4_6, ↓r4_7, r4_7, ↓r4_8, r4_8, ↓r4_9, r4_9, ↓r4_10, r4_10, ↓r4_11, r4_11, ↓r4_12, r4_12, ↓r4_13, r4_13, ↓r4_14, r4_14, ↓r4_15, r4_15, ↓r4_16, r4_16, J4_16_0, J4_16_1, J4_16_2, ↓r4_17, r4_17, ↓r4_18a, r4_18a, ↓r4_18b, r4_18b, ↓r4_19, r4_19, ↓r4_20, r4_20, J4_20_0, J4_20_1, J4_20_2, J4_20_3, J4_20_4, hx.len, bin_gtr, e1, a1]
  have e1 : decide ((300 : Int) < (b.length : Nat)) = false := decide_eq_false (by omega)
  have up := Up.fresh h
  obtain ⟨p, r, h1, n1, D1, k1⟩ := new_ok 20 h false (k + 2)
  have up1 := up.keep k1
  have D1' : Dsk (From h.length) h1 p r ⟨bl20, full 0, -1, false⟩ := D1
  obtain ⟨h2, g1, D2, k2⟩ := loop1_4 (.int .u8 f) (.int .u8 t) k 20 0 (k + 3) h1 rfl (by omega) up1 D1'
  have up2 := up1.keep k2
  obtain ⟨h3, f1, D3, k3⟩ := flush_ok D2 up2 (by decide) (by decide) false (k + 2) (by simp [full]; omega)
  rw [calm_flush] at f1 D3
  have D3' : Dsk (From h.length) h3 p r (Calm l1) := D3
  obtain ⟨h4, c1, D4, k4⟩ := clean_ok D3' (up2.keep k3) (by decide) (by decide) ((f % 24 : Nat) : Int) ((t % 24 : Nat) : Int) (k + 2) (by simp [Calm]; omega)
  rw [clean_l1] at c1 D4
  have D4' : Dsk (From h.length) h4 p r (Calm (l2 (f % 24) (t % 24))) := D4
  obtain ⟨h5, j1, D5, k5⟩ := loop2_4 (f % 24) (t % 24) (.int .i64 0) k (by omega) 20 0 (k + 3) h4 rfl (by omega) D4'
  obtain ⟨h6, a1, ka⟩ := answers_ok h5 (k + 2) (by omega)
  obtain ⟨h7, lo, kl⟩ := loose_ok (D5.fresh ka) (by simp [Calm]) (k + 1) (by simp [Calm])
  rw [show ((0 : Nat) : Int) = 0 from rfl] at g1 j1
  have z : decide ((0 : Int) = 0) = true := by decide
  have z2 : decide ((((Calm (l2 (f % 24) (t % 24))).loose.length : Nat) : Int) = 0) = true := by simp [Calm]
  refine ⟨h7, exFn_of e4 ?_⟩
  rw [fnK, n0, s4]
  simp -implicitDefEqProofs only [↓runK_seq, runK_seq, ↓runK_cond, runK_cond, ↓runK_block, runK_block, ↓runK_loop, runK_loop, ↓runK_skip, runK_skip, ↓runK_ret, runK_ret, ↓runK_exit, runK_exit, ↓seqE_n, seqE_n, ↓seqE_e, seqE_e, ↓seqE_r, seqE_r, ↓blkE_n, blkE_n, ↓blkE_e, blkE_e, ↓blkE_r, blkE_r, ↓retK_n, retK_n, ↓retK_r, retK_r, ↓aCall_fn, aCall_fn, ↓bnd_s, bnd_s, ↓bnd2_s, bnd2_s, ↓onB_t, onB_t, ↓onB_f, onB_f, ↓onT_t, onT_t, ↓aPick_t, aPick_t, ↓aPick_f, aPick_f, decide_true, decide_false, st_tmp, results1, results2, List.lookup_cons, List.lookup_nil, Nat.reduceBEq, Bool.false_eq_true, ↓reduceIte, BEq.rfl, Nat.reduceLT, Option.getD_some, Option.getD_none, ↓r4_0, r4_0, ↓r4_1, r4_1, ↓r4_2, r4_2, ↓r4_3, r4_3, ↓r4_4, r4_4, ↓r4_5, r4_5, ↓r4_6, r4_6, ↓r4_7, r4_7, ↓r4_8, r4_8, ↓r4_9, r4_9, ↓r4_10, r4_10, ↓r4_11, r4_11, ↓r4_12, r4_12, ↓r4_13, r4_13, ↓r4_14, r4_14, ↓r4_15, r4_15, ↓r4_16, r4_16, J4_16_0, J4_16_1, J4_16_2, ↓r4_17, r4_17, ↓r4_18a, r4_18a, ↓r4_18b, r4_18b, ↓r4_19, r4_19, ↓r4_20, r4_20, J4_20_0, J4_20_1, J4_20_2, J4_20_3, J4_20_4, hx.len, bin_gtr, e1, n1]
  rw [g1]
  simp -implicitDefEqProofs only [↓runK_seq, runK_seq, ↓runK_cond, runK_cond, ↓runK_block, runK_block, ↓runK_loop, runK_loop, ↓runK_skip, runK_skip, ↓runK_ret, runK_ret, ↓runK_exit, runK_exit, ↓seqE_n, seqE_n, ↓seqE_e, seqE_e, ↓seqE_r, seqE_r, ↓blkE_n, blkE_n, ↓blkE_e, blkE_e, ↓blkE_r, blkE_r, ↓retK_n, retK_n, ↓retK_r, retK_r, ↓aCall_fn, aCall_fn, ↓bnd_s, bnd_s, ↓bnd2_s, bnd2_s, ↓onB_t, onB_t, ↓onB_f, onB_f, ↓onT_t, onT_t, ↓aPick_t, aPick_t, ↓aPick_f, aPick_f, decide_true, decide_false, st_tmp, results1, results2, List.lookup_cons, List.lookup_nil, Nat.reduceBEq, Bool.false_eq_true, ↓reduceIte, BEq.rfl, Nat.reduceLT, Option.getD_some, Option.getD_none, ↓r4_0, r4_0, ↓r4_1, r4_1, ↓r4_2, r4_2, ↓r4_3, r4_3, ↓r4_4, r4_4, ↓r4_5, r4_5, ↓r4_6, r4_6, ↓r4_7, r4_7, ↓r4_8, r4_8, ↓r4_9, r4_9, ↓r4_10, r4_10, ↓r4_11, r4_11, ↓r4_12, r4_12, ↓r4_13, r4_13, ↓r4_14, r4_14, ↓r4_15, r4_15, ↓r4_16, r4_16, J4_16_0, J4_16_1, J4_16_2, ↓r4_17, r4_17, ↓r4_18a, r4_18a, ↓r4_18b, r4_18b, ↓r4_19, r4_19, ↓r4_20, r4_20, J4_20_0, J4_20_1, J4_20_2, J4_20_3, J4_20_4, f1, rem_u8, conv_8_64 (f % 24) (by omega), conv_8_64 (t % 24) (by omega), c1]
  rw [j1]
  simp -implicitDefEqProofs only [↓runK_seq, runK_seq, ↓runK_cond, runK_cond, ↓runK_block, runK_block, ↓runK_loop, runK_loop, ↓runK_skip, runK_skip, ↓runK_ret, runK_ret, ↓runK_exit, runK_exit, ↓seqE_n, seqE_n, ↓seqE_e, seqE_e, ↓seqE_r, seqE_r, ↓blkE_n, blkE_n, ↓blkE_e, blkE_e, ↓blkE_r, blkE_r, ↓retK_n, retK_n, ↓retK_r, retK_r, ↓aCall_fn, aCall_fn, ↓bnd_s, bnd_s, ↓bnd2_s, bnd2_s, ↓onB_t, onB_t, ↓onB_f, onB_f, ↓onT_t, onT_t, ↓aPick_t, aPick_t, ↓aPick_f, aPick_f, decide_true, decide_false, st_tmp, results1, results2, List.lookup_cons, List.lookup_nil, Nat.reduceBEq, Bool.false_eq_true, ↓reduceIte, BEq.rfl, Nat.reduceLT, Option.getD_some, Option.getD_none, ↓r4_0, r4_0, ↓r4_1, r4_1, ↓r4_2, r4_2, ↓r4_3, r4_3, ↓r4_4, r4_4, ↓r4_5, r4_5, ↓r4_6, r4_6, ↓r4_7, r4_7, ↓r4_8, r4_8, ↓r4_9, r4_9, ↓r4_10, r4_10, ↓r4_11, r4_11, ↓r4_12, r4_12, ↓r4_13, r4_13, ↓r4_14, r4_14, ↓r4_15, r4_15, ↓r4_16, r4_16, J4_16_0, J4_16_1, J4_16_2, ↓r4_17, r4_17, ↓r4_18a, r4_18a, ↓r4_18b, r4_18b, ↓r4_19, r4_19, ↓r4_20, r4_20, J4_20_0, J4_20_1, J4_20_2, J4_20_3, J4_20_4, a1, bin_eql, z, lo, z2]
end Go.Ax
