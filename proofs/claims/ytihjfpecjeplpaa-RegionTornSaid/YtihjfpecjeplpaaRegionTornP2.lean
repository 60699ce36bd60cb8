/- What the functions that RegionTorn reaches compute (part 2); each for the inputs that its theorem names. -/
import Derived.Test.YtihjfpecjeplpaaRegionTornP1
set_option linter.unusedSimpArgs false
set_option linter.unusedVariables false

/- region.Lay: an entry is written. -/
namespace Go.Ax
open Go Go.Proofs

theorem burn_fuse (d : Dk) : d.burn.fuse ≤ d.fuse := by unfold Dk.burn; simp only; split <;> omega
theorem write_fuse (d : Dk) (a : Int) (b : List UInt8) : (d.write a b).2.fuse ≤ d.fuse := by
  unfold Dk.write
  split
  · exact Int.le_refl _
  · split
    · exact burn_fuse d
    · exact burn_fuse d
theorem write_loose (d : Dk) (a : Int) (b : List UInt8) : (d.write a b).2.loose.length ≤ d.loose.length + 1 := by
  unfold Dk.write
  split
  · simp
  · split
    · simp [Dk.burn]
    · simp [Dk.burn, Dk.add]
theorem write_len (d : Dk) (a : Int) (b : List UInt8) : (d.write a b).2.lasts.length = d.lasts.length := by
  unfold Dk.write
  split
  · rfl
  · split <;> rfl
theorem flush_fuse (d : Dk) : d.flush.2.fuse ≤ d.fuse := by
  unfold Dk.flush
  split
  · exact burn_fuse d
  · exact burn_fuse d
theorem flush_loose (d : Dk) : d.flush.2.loose.length ≤ d.loose.length := by
  unfold Dk.flush
  split
  · exact Nat.le_refl _
  · simp
theorem flush_len (d : Dk) : d.flush.2.lasts.length = d.lasts.length := by
  unfold Dk.flush
  split
  · rfl
  · exact land_length _ _

/-- The part of an entry that lies in its i-th sector. -/
def chunk (b : List UInt8) (i : Nat) : List UInt8 := (b.drop (64 * (i - 1))).take 64

def layLoop (at' : Int) (b : List UInt8) : Nat → Nat → Dk → Int × Dk
  | 0, _, d => (0, d)
  | m + 1, i, d => if (d.write (at' + i) (chunk b i)).1 = 0 then layLoop at' b m (i + 1) (d.write (at' + i) (chunk b i)).2 else d.write (at' + i) (chunk b i)

theorem layLoop_zero (at' : Int) (b : List UInt8) (i : Nat) (d : Dk) : layLoop at' b 0 i d = (0, d) := rfl
theorem layLoop_go {at' : Int} {b : List UInt8} {m i : Nat} {d : Dk} (h : (d.write (at' + i) (chunk b i)).1 = 0) : layLoop at' b (m + 1) i d = layLoop at' b m (i + 1) (d.write (at' + i) (chunk b i)).2 := if_pos h
theorem layLoop_no {at' : Int} {b : List UInt8} {m i : Nat} {d : Dk} (h : (d.write (at' + i) (chunk b i)).1 ≠ 0) : layLoop at' b (m + 1) i d = d.write (at' + i) (chunk b i) := if_neg h

theorem layLoop_loose (at' : Int) (b : List UInt8) : ∀ m i d, (layLoop at' b m i d).2.loose.length ≤ d.loose.length + m := by
  intro m
  induction m with
  | zero => intro i d; simp [layLoop]
  | succ m ih =>
    intro i d
    have := write_loose d (at' + i) (chunk b i)
    by_cases h : (d.write (at' + i) (chunk b i)).1 = 0
    · rw [layLoop_go h]
      have := ih (i + 1) (d.write (at' + i) (chunk b i)).2
      omega
    · rw [layLoop_no h]; omega
theorem layLoop_fuse (at' : Int) (b : List UInt8) : ∀ m i d, (layLoop at' b m i d).2.fuse ≤ d.fuse := by
  intro m
  induction m with
  | zero => intro i d; simp [layLoop]
  | succ m ih =>
    intro i d
    have := write_fuse d (at' + i) (chunk b i)
    by_cases h : (d.write (at' + i) (chunk b i)).1 = 0
    · rw [layLoop_go h]
      have := ih (i + 1) (d.write (at' + i) (chunk b i)).2
      omega
    · rw [layLoop_no h]; omega

theorem Bs.sub {x : AV} {l : List UInt8} (hx : Bs x l) (lo hi : Nat) (h1 : lo ≤ hi) (h2 : hi ≤ l.length) : ∃ y, aSlice tab 22 x (some (.int .i64 lo)) (some (.int .i64 hi)) none = some y ∧ Bs y ((l.take hi).drop lo) := by
  rcases hx with ⟨rfl, rfl⟩ | ⟨k, rfl⟩
  · obtain rfl : hi = 0 := by simpa using h2
    obtain rfl : lo = 0 := by omega
    exact ⟨.nils, by simp [aSlice, aBounds, aBound], .inl ⟨rfl, by simp⟩⟩
  · refine ⟨.vsl 5 (((l.take hi).drop lo).map U8) (cutTok l.length hi none k), ?_, .inr ⟨_, rfl⟩⟩
    simp [aSlice, aBounds, aBound, h1, h2]

theorem chunk_eq (b : List UInt8) (i : Nat) (hi : 1 ≤ i) : (b.take (min (64 * i) b.length)).drop (64 * (i - 1)) = chunk b i := by
  unfold chunk
  rw [List.drop_take]
  rcases Nat.le_total (64 * i) b.length with h | h
  · rw [Nat.min_eq_left h, show 64 * i - 64 * (i - 1) = 64 by omega]
  · rw [Nat.min_eq_right h, List.take_of_length_le (by simp), List.take_of_length_le (by simp; omega)]

theorem lay_loop {S : Obs} {p r : Nat} {x : AV} {b : List UInt8} (hx : Bs x b) (a nn : Nat) (x3 : AV) (N : Nat) (ha : a + nn ≤ 1024) (hnn : 64 * (nn - 1) < b.length + 64) :
    ∀ (m i n : Nat) (d : Dk) (h : Heap), i + m = nn → 1 ≤ i → m < n → Up S h → Dsk S h p r d → d.loose.length + m < 2 ^ 30 → d.fuse < 2 ^ 62 →
    ∃ h', (∀ K : Ex → List AV → Heap → Option (AV × Heap), loopK (fun next => runK C0 (exFn C0 E0 (N + 3)) false 14 (N + 3) B14_1 (seqE next K)) n (st 96 [(0, dp p), (1, .int .i64 a), (3, x3), (4, x), (12, .int .i64 nn), (13, .int .i64 i)]) h =
      if (layLoop a b m i d).1 = 0 then K (.exit 0) (st 96 [(0, dp p), (1, .int .i64 a), (3, x3), (4, x), (12, .int .i64 nn), (13, .int .i64 nn), (52, .bool false)]) h'
      else K .ret (st 96 [(10, .int .i64 0), (11, .int .i64 (layLoop a b m i d).1)]) h') ∧
      Dsk S h' p r (layLoop a b m i d).2 ∧ Keep S h h' := by
  intro m
  induction m with
  | zero =>
    intro i n d h hi h1 hn up D hl hf
    obtain ⟨n, rfl⟩ : ∃ j, n = j + 1 := ⟨n - 1, by omega⟩
    obtain rfl : i = nn := by omega
    rw [layLoop_zero]
    refine ⟨h, fun K => ?_, D, Keep.refl _ _⟩
    rw [if_pos rfl, loopK_succ]
    generalize loopK (_ : (List AV → Heap → Option (AV × Heap)) → List AV → Heap → Option (AV × Heap)) n = Lp
    have e : decide (((i : Nat) : Int) < (i : Nat)) = false := decide_eq_false (by omega)
    simp -implicitDefEqProofs only [B14_1, ↓runK_seq, runK_seq, ↓runK_cond, runK_cond, ↓runK_block, runK_block, ↓runK_loop, runK_loop, ↓runK_skip, runK_skip, ↓runK_ret, runK_ret, ↓runK_exit, runK_exit, ↓seqE_n, seqE_n, ↓seqE_e, seqE_e, ↓seqE_r, seqE_r, ↓blkE_n, blkE_n, ↓blkE_e, blkE_e, ↓blkE_r, blkE_r, ↓retK_n, retK_n, ↓retK_r, retK_r, ↓aCall_fn, aCall_fn, ↓bnd_s, bnd_s, ↓bnd2_s, bnd2_s, ↓onB_t, onB_t, ↓onB_f, onB_f, ↓onG_tt, onG_tt, ↓onG_tf, onG_tf, ↓onG_ft, onG_ft, ↓onG_ff, onG_ff, ↓onG_s, onG_s, ↓onT_t, onT_t, ↓aPick_t, aPick_t, ↓aPick_f, aPick_f, decide_true, decide_false, st_tmp, results1, results2, List.lookup_cons, List.lookup_nil, Nat.reduceBEq, Bool.false_eq_true, ↓reduceIte, BEq.rfl, Nat.reduceLT, Option.getD_some, Option.getD_none, ↓r14_0, r14_0, ↓r14_1, r14_1, J14_1_0, J14_1_1, J14_1_2, J14_1_3, J14_1_4, J14_1_5, J14_1_6, ↓r14_2, r14_2, ↓r14_3, r14_3, ↓r14_4, r14_4, J14_4_0, J14_4_1, J14_4_2, ↓r14_5, r14_5, ↓r14_6, r14_6, ↓r14_7, r14_7, ↓r14_8, r14_8, ↓r14_9, r14_9, ↓r14_10, r14_10, ↓r14_11, r14_11, ↓r14_12, r14_12, ↓r14_13, r14_13, ↓r14_14, r14_14, ↓r14_15, r14_15, ↓r14_16, r14_16, ↓r14_17, r14_17, ↓r14_18, r14_18, ↓r14_19, r14_19, ↓r14_20, r14_20, ↓r14_21, r14_21, ↓r14_22, r14_22, bin_lss, e]
  | succ m ih =>
    intro i n d h hi h1 hn up D hl hf
    obtain ⟨n, rfl⟩ : ∃ j, n = j + 1 := ⟨n - 1, by omega⟩
    have e : decide (((i : Nat) : Int) < (nn : Nat)) = true := decide_eq_true (by omega)
    have w1 : IntKind.i64.wrap ((i : Int) - 1) = ((i - 1 : Nat) : Int) := by rw [wrap_i64] <;> omega
    have w2 : IntKind.i64.wrap (((i - 1 : Nat) : Int) * 64) = ((64 * (i - 1) : Nat) : Int) := by rw [wrap_i64] <;> omega
    have w3 : IntKind.i64.wrap ((i : Int) * 64) = ((64 * i : Nat) : Int) := by rw [wrap_i64] <;> omega
    have w4 : IntKind.i64.wrap ((a : Int) + (i : Int)) = (a : Int) + i := by rw [wrap_i64] <;> omega
    have w5 : IntKind.i64.wrap ((i : Int) + 1) = ((i + 1 : Nat) : Int) := by rw [wrap_i64] <;> omega
    have mn : (if ((b.length : Nat) : Int) < ((64 * i : Nat) : Int) then ((b.length : Nat) : Int) else ((64 * i : Nat) : Int)) = ((min (64 * i) b.length : Nat) : Int) := by split <;> omega
    obtain ⟨y, sy, by'⟩ := hx.sub (64 * (i - 1)) (min (64 * i) b.length) (by omega) (by omega)
    rw [chunk_eq b i h1] at by'
    obtain ⟨h2, q1, D2, k2⟩ := write_ok D up ((a : Int) + i) (U := fun _ => False) (.inl by') (fun _ _ h => h.elim) (by omega) hf N
    have hwl := write_loose d ((a : Int) + i) (chunk b i)
    have hwf := write_fuse d ((a : Int) + i) (chunk b i)
    by_cases hw : (d.write ((a : Int) + i) (chunk b i)).1 = 0
    · obtain ⟨h3, g1, g2, g3⟩ := ih (i + 1) n _ h2 (by omega) (by omega) (by omega) (up.keep k2) D2 (by omega) (by omega)
      rw [layLoop_go hw]
      refine ⟨h3, fun K => ?_, g2, k2.trans g3⟩
      rw [loopK_succ, ← g1 K]
      generalize loopK (_ : (List AV → Heap → Option (AV × Heap)) → List AV → Heap → Option (AV × Heap)) n = Lp
      rw [hw] at q1
      have c0 : decide ((0 : Int) ≠ 0) = false := by decide
      simp -implicitDefEqProofs only [B14_1, ↓runK_seq, runK_seq, ↓runK_cond, runK_cond, ↓runK_block, runK_block, ↓runK_loop, runK_loop, ↓runK_skip, runK_skip, ↓runK_ret, runK_ret, ↓runK_exit, runK_exit, ↓seqE_n, seqE_n, ↓seqE_e, seqE_e, ↓seqE_r, seqE_r, ↓blkE_n, blkE_n, ↓blkE_e, blkE_e, ↓blkE_r, blkE_r, ↓retK_n, retK_n, ↓retK_r, retK_r, ↓aCall_fn, aCall_fn, ↓bnd_s, bnd_s, ↓bnd2_s, bnd2_s, ↓onB_t, onB_t, ↓onB_f, onB_f, ↓onG_tt, onG_tt, ↓onG_tf, onG_tf, ↓onG_ft, onG_ft, ↓onG_ff, onG_ff, ↓onG_s, onG_s, ↓onT_t, onT_t, ↓aPick_t, aPick_t, ↓aPick_f, aPick_f, decide_true, decide_false, st_tmp, results1, results2, List.lookup_cons, List.lookup_nil, Nat.reduceBEq, Bool.false_eq_true, ↓reduceIte, BEq.rfl, Nat.reduceLT, Option.getD_some, Option.getD_none, ↓r14_0, r14_0, ↓r14_1, r14_1, J14_1_0, J14_1_1, J14_1_2, J14_1_3, J14_1_4, J14_1_5, J14_1_6, ↓r14_2, r14_2, ↓r14_3, r14_3, ↓r14_4, r14_4, J14_4_0, J14_4_1, J14_4_2, ↓r14_5, r14_5, ↓r14_6, r14_6, ↓r14_7, r14_7, ↓r14_8, r14_8, ↓r14_9, r14_9, ↓r14_10, r14_10, ↓r14_11, r14_11, ↓r14_12, r14_12, ↓r14_13, r14_13, ↓r14_14, r14_14, ↓r14_15, r14_15, ↓r14_16, r14_16, ↓r14_17, r14_17, ↓r14_18, r14_18, ↓r14_19, r14_19, ↓r14_20, r14_20, ↓r14_21, r14_21, ↓r14_22, r14_22, bin_lss, e, bin_sub, w1, bin_mul, w2, w3, hx.len, min2_i64, mn, sy, bin_add, w4, q1, neq27, c0, w5]
    · rw [layLoop_no hw]
      refine ⟨h2, fun K => ?_, D2, k2⟩
      rw [if_neg hw, loopK_succ]
      generalize loopK (_ : (List AV → Heap → Option (AV × Heap)) → List AV → Heap → Option (AV × Heap)) n = Lp
      have c0 : decide ((d.write ((a : Int) + i) (chunk b i)).1 ≠ 0) = true := decide_eq_true hw
      simp -implicitDefEqProofs only [B14_1, ↓runK_seq, runK_seq, ↓runK_cond, runK_cond, ↓runK_block, runK_block, ↓runK_loop, runK_loop, ↓runK_skip, runK_skip, ↓runK_ret, runK_ret, ↓runK_exit, runK_exit, ↓seqE_n, seqE_n, ↓seqE_e, seqE_e, ↓seqE_r, seqE_r, ↓blkE_n, blkE_n, ↓blkE_e, blkE_e, ↓blkE_r, blkE_r, ↓retK_n, retK_n, ↓retK_r, retK_r, ↓aCall_fn, aCall_fn, ↓bnd_s, bnd_s, ↓bnd2_s, bnd2_s, ↓onB_t, onB_t, ↓onB_f, onB_f, ↓onG_tt, onG_tt, ↓onG_tf, onG_tf, ↓onG_ft, onG_ft, ↓onG_ff, onG_ff, ↓onG_s, onG_s, ↓onT_t, onT_t, ↓aPick_t, aPick_t, ↓aPick_f, aPick_f, decide_true, decide_false, st_tmp, results1, results2, List.lookup_cons, List.lookup_nil, Nat.reduceBEq, Bool.false_eq_true, ↓reduceIte, BEq.rfl, Nat.reduceLT, Option.getD_some, Option.getD_none, ↓r14_0, r14_0, ↓r14_1, r14_1, J14_1_0, J14_1_1, J14_1_2, J14_1_3, J14_1_4, J14_1_5, J14_1_6, ↓r14_2, r14_2, ↓r14_3, r14_3, ↓r14_4, r14_4, J14_4_0, J14_4_1, J14_4_2, ↓r14_5, r14_5, ↓r14_6, r14_6, ↓r14_7, r14_7, ↓r14_8, r14_8, ↓r14_9, r14_9, ↓r14_10, r14_10, ↓r14_11, r14_11, ↓r14_12, r14_12, ↓r14_13, r14_13, ↓r14_14, r14_14, ↓r14_15, r14_15, ↓r14_16, r14_16, ↓r14_17, r14_17, ↓r14_18, r14_18, ↓r14_19, r14_19, ↓r14_20, r14_20, ↓r14_21, r14_21, ↓r14_22, r14_22, bin_lss, e, bin_sub, w1, bin_mul, w2, w3, hx.len, min2_i64, mn, sy, bin_add, w4, q1, neq27, c0]

/-- Lay's answer, and the disk then. -/
def Dk.lay (d : Dk) (at' e gen : Int) (b : List UInt8) : (Int × Int) × Dk :=
  if 8192 < b.length ∨ gen < 0 ∨ 2147483647 < gen ∨ at' < 0 then ((0, 1), d)
  else if e < at' ∨ min e d.lasts.length - at' < sizeOf b.length then ((0, 3), d)
  else
    let l := layLoop at' b ((sizeOf b.length).toNat - 1) 1 d
    if l.1 ≠ 0 then ((0, l.1), l.2)
    else if l.2.flush.1 ≠ 0 then ((0, l.2.flush.1), l.2.flush.2)
    else
      let w := l.2.flush.2.write at' (head16 (BitVec.ofInt 32 gen) b)
      if w.1 ≠ 0 then ((0, w.1), w.2)
      else if w.2.flush.1 ≠ 0 then ((0, w.2.flush.1), w.2.flush.2)
      else ((at' + sizeOf b.length, 0), w.2.flush.2)

theorem lay_arg {d : Dk} {at' e gen : Int} {b : List UInt8} (h : 8192 < b.length ∨ gen < 0 ∨ 2147483647 < gen ∨ at' < 0) : d.lay at' e gen b = ((0, 1), d) := if_pos h
theorem lay_full {d : Dk} {at' e gen : Int} {b : List UInt8} (h : ¬ (8192 < b.length ∨ gen < 0 ∨ 2147483647 < gen ∨ at' < 0)) (h2 : e < at' ∨ min e d.lasts.length - at' < sizeOf b.length) : d.lay at' e gen b = ((0, 3), d) := by
  unfold Dk.lay; rw [if_neg h, if_pos h2]
theorem lay_go {d : Dk} {at' e gen : Int} {b : List UInt8} (h : ¬ (8192 < b.length ∨ gen < 0 ∨ 2147483647 < gen ∨ at' < 0)) (h2 : ¬ (e < at' ∨ min e d.lasts.length - at' < sizeOf b.length)) {l : Int × Dk} (hl : layLoop at' b ((sizeOf b.length).toNat - 1) 1 d = l) :
    d.lay at' e gen b = if l.1 ≠ 0 then ((0, l.1), l.2)
    else if l.2.flush.1 ≠ 0 then ((0, l.2.flush.1), l.2.flush.2)
    else if (l.2.flush.2.write at' (head16 (BitVec.ofInt 32 gen) b)).1 ≠ 0 then ((0, (l.2.flush.2.write at' (head16 (BitVec.ofInt 32 gen) b)).1), (l.2.flush.2.write at' (head16 (BitVec.ofInt 32 gen) b)).2)
    else if (l.2.flush.2.write at' (head16 (BitVec.ofInt 32 gen) b)).2.flush.1 ≠ 0 then ((0, (l.2.flush.2.write at' (head16 (BitVec.ofInt 32 gen) b)).2.flush.1), (l.2.flush.2.write at' (head16 (BitVec.ofInt 32 gen) b)).2.flush.2)
    else ((at' + sizeOf b.length, 0), (l.2.flush.2.write at' (head16 (BitVec.ofInt 32 gen) b)).2.flush.2) := by
  subst hl; unfold Dk.lay; rw [if_neg h, if_neg h2]

theorem ln0 (p : Nat) (at' e gen : Int) (x : AV) : ([dp p, .int .i64 at', .int .i64 e, .int .i64 gen, x] ++ List.replicate (96 - [dp p, .int .i64 at', .int .i64 e, .int .i64 gen, x].length) AV.undef) =
    st 96 [(0, dp p), (1, .int .i64 at'), (2, .int .i64 e), (3, .int .i64 gen), (4, x)] := rfl

theorem lay_ok {S : Obs} {p r : Nat} {h : Heap} {d : Dk} (D : Dsk S h p r d) (up : Up S h) (hl : d.loose.length < 2 ^ 29) (hf : d.fuse < 2 ^ 62) (at' e gen : Int) (hat : at' < 2 ^ 63) {x : AV} {b : List UInt8} (hx : Bs x b)
    (hbl : b.length < 2 ^ 61) (k : Nat) (hk : d.loose.length + 9000 < k) :
    ∃ h', exFn C0 E0 (k + 1) false 14 [dp p, .int .i64 at', .int .i64 e, .int .i64 gen, x] h = some (.tuple [.int .i64 (d.lay at' e gen b).1.1, .int .i64 (d.lay at' e gen b).1.2], h') ∧ Dsk S h' p r (d.lay at' e gen b).2 ∧ Keep S h h' := by
  obtain ⟨k, rfl⟩ : ∃ j, k = j + 9 := ⟨k - 9, by omega⟩
  have hfew := D.few
  by_cases q1 : 8192 < b.length
  · have e1 : decide ((8192 : Int) < (b.length : Nat)) = true := decide_eq_true (by omega)
    rw [lay_arg (.inl q1)]
    refine ⟨h, exFn_of e14 ?_, D, Keep.refl _ _⟩
    rw [fnK, ln0, s14]
    simp -implicitDefEqProofs only [↓runK_seq, runK_seq, ↓runK_cond, runK_cond, ↓runK_block, runK_block, ↓runK_loop, runK_loop, ↓runK_skip, runK_skip, ↓runK_ret, runK_ret, ↓runK_exit, runK_exit, ↓seqE_n, seqE_n, ↓seqE_e, seqE_e, ↓seqE_r, seqE_r, ↓blkE_n, blkE_n, ↓blkE_e, blkE_e, ↓blkE_r, blkE_r, ↓retK_n, retK_n, ↓retK_r, retK_r, ↓aCall_fn, aCall_fn, ↓bnd_s, bnd_s, ↓bnd2_s, bnd2_s, ↓onB_t, onB_t, ↓onB_f, onB_f, ↓onG_tt, onG_tt, ↓onG_tf, onG_tf, ↓onG_ft, onG_ft, ↓onG_ff, onG_ff, ↓onG_s, onG_s, ↓onT_t, onT_t, ↓aPick_t, aPick_t, ↓aPick_f, aPick_f, decide_true, decide_false, st_tmp, results1, results2, List.lookup_cons, List.lookup_nil, Nat.reduceBEq, Bool.false_eq_true, ↓reduceIte, BEq.rfl, Nat.reduceLT, Option.getD_some, Option.getD_none, ↓r14_0, r14_0, ↓r14_1, r14_1, J14_1_0, J14_1_1, J14_1_2, J14_1_3, J14_1_4, J14_1_5, J14_1_6, ↓r14_2, r14_2, ↓r14_3, r14_3, ↓r14_4, r14_4, J14_4_0, J14_4_1, J14_4_2, ↓r14_5, r14_5, ↓r14_6, r14_6, ↓r14_7, r14_7, ↓r14_8, r14_8, ↓r14_9, r14_9, ↓r14_10, r14_10, ↓r14_11, r14_11, ↓r14_12, r14_12, ↓r14_13, r14_13, ↓r14_14, r14_14, ↓r14_15, r14_15, ↓r14_16, r14_16, ↓r14_17, r14_17, ↓r14_18, r14_18, ↓r14_19, r14_19, ↓r14_20, r14_20, ↓r14_21, r14_21, ↓r14_22, r14_22, hx.len, bin_gtr, e1]
  have e1 : decide ((8192 : Int) < (b.length : Nat)) = false := decide_eq_false (by omega)
  by_cases q2 : gen < 0
  · have e2 : decide (gen < 0) = true := decide_eq_true q2
    rw [lay_arg (.inr (.inl q2))]
    refine ⟨h, exFn_of e14 ?_, D, Keep.refl _ _⟩
    rw [fnK, ln0, s14]
    simp -implicitDefEqProofs only [↓runK_seq, runK_seq, ↓runK_cond, runK_cond, ↓runK_block, runK_block, ↓runK_loop, runK_loop, ↓runK_skip, runK_skip, ↓runK_ret, runK_ret, ↓runK_exit, runK_exit, ↓seqE_n, seqE_n, ↓seqE_e, seqE_e, ↓seqE_r, seqE_r, ↓blkE_n, blkE_n, ↓blkE_e, blkE_e, ↓blkE_r, blkE_r, ↓retK_n, retK_n, ↓retK_r, retK_r, ↓aCall_fn, aCall_fn, ↓bnd_s, bnd_s, ↓bnd2_s, bnd2_s, ↓onB_t, onB_t, ↓onB_f, onB_f, ↓onG_tt, onG_tt, ↓onG_tf, onG_tf, ↓onG_ft, onG_ft, ↓onG_ff, onG_ff, ↓onG_s, onG_s, ↓onT_t, onT_t, ↓aPick_t, aPick_t, ↓aPick_f, aPick_f, decide_true, decide_false, st_tmp, results1, results2, List.lookup_cons, List.lookup_nil, Nat.reduceBEq, Bool.false_eq_true, ↓reduceIte, BEq.rfl, Nat.reduceLT, Option.getD_some, Option.getD_none, ↓r14_0, r14_0, ↓r14_1, r14_1, J14_1_0, J14_1_1, J14_1_2, J14_1_3, J14_1_4, J14_1_5, J14_1_6, ↓r14_2, r14_2, ↓r14_3, r14_3, ↓r14_4, r14_4, J14_4_0, J14_4_1, J14_4_2, ↓r14_5, r14_5, ↓r14_6, r14_6, ↓r14_7, r14_7, ↓r14_8, r14_8, ↓r14_9, r14_9, ↓r14_10, r14_10, ↓r14_11, r14_11, ↓r14_12, r14_12, ↓r14_13, r14_13, ↓r14_14, r14_14, ↓r14_15, r14_15, ↓r14_16, r14_16, ↓r14_17, r14_17, ↓r14_18, r14_18, ↓r14_19, r14_19, ↓r14_20, r14_20, ↓r14_21, r14_21, ↓r14_22, r14_22, hx.len, bin_gtr, e1, bin_lss, e2]
  have e2 : decide (gen < 0) = false := decide_eq_false q2
  by_cases q3 : 2147483647 < gen
  · have e3 : decide (2147483647 < gen) = true := decide_eq_true q3
    rw [lay_arg (.inr (.inr (.inl q3)))]
    refine ⟨h, exFn_of e14 ?_, D, Keep.refl _ _⟩
    rw [fnK, ln0, s14]
    simp -implicitDefEqProofs only [↓runK_seq, runK_seq, ↓runK_cond, runK_cond, ↓runK_block, runK_block, ↓runK_loop, runK_loop, ↓runK_skip, runK_skip, ↓runK_ret, runK_ret, ↓runK_exit, runK_exit, ↓seqE_n, seqE_n, ↓seqE_e, seqE_e, ↓seqE_r, seqE_r, ↓blkE_n, blkE_n, ↓blkE_e, blkE_e, ↓blkE_r, blkE_r, ↓retK_n, retK_n, ↓retK_r, retK_r, ↓aCall_fn, aCall_fn, ↓bnd_s, bnd_s, ↓bnd2_s, bnd2_s, ↓onB_t, onB_t, ↓onB_f, onB_f, ↓onG_tt, onG_tt, ↓onG_tf, onG_tf, ↓onG_ft, onG_ft, ↓onG_ff, onG_ff, ↓onG_s, onG_s, ↓onT_t, onT_t, ↓aPick_t, aPick_t, ↓aPick_f, aPick_f, decide_true, decide_false, st_tmp, results1, results2, List.lookup_cons, List.lookup_nil, Nat.reduceBEq, Bool.false_eq_true, ↓reduceIte, BEq.rfl, Nat.reduceLT, Option.getD_some, Option.getD_none, ↓r14_0, r14_0, ↓r14_1, r14_1, J14_1_0, J14_1_1, J14_1_2, J14_1_3, J14_1_4, J14_1_5, J14_1_6, ↓r14_2, r14_2, ↓r14_3, r14_3, ↓r14_4, r14_4, J14_4_0, J14_4_1, J14_4_2, ↓r14_5, r14_5, ↓r14_6, r14_6, ↓r14_7, r14_7, ↓r14_8, r14_8, ↓r14_9, r14_9, ↓r14_10, r14_10, ↓r14_11, r14_11, ↓r14_12, r14_12, ↓r14_13, r14_13, ↓r14_14, r14_14, ↓r14_15, r14_15, ↓r14_16, r14_16, ↓r14_17, r14_17, ↓r14_18, r14_18, ↓r14_19, r14_19, ↓r14_20, r14_20, ↓r14_21, r14_21, ↓r14_22, r14_22, hx.len, bin_gtr, e1, bin_lss, e2, e3]
  have e3 : decide (2147483647 < gen) = false := decide_eq_false q3
  by_cases q4 : at' < 0
  · have e4 : decide (at' < 0) = true := decide_eq_true q4
    rw [lay_arg (.inr (.inr (.inr q4)))]
    refine ⟨h, exFn_of e14 ?_, D, Keep.refl _ _⟩
    rw [fnK, ln0, s14]
    simp -implicitDefEqProofs only [↓runK_seq, runK_seq, ↓runK_cond, runK_cond, ↓runK_block, runK_block, ↓runK_loop, runK_loop, ↓runK_skip, runK_skip, ↓runK_ret, runK_ret, ↓runK_exit, runK_exit, ↓seqE_n, seqE_n, ↓seqE_e, seqE_e, ↓seqE_r, seqE_r, ↓blkE_n, blkE_n, ↓blkE_e, blkE_e, ↓blkE_r, blkE_r, ↓retK_n, retK_n, ↓retK_r, retK_r, ↓aCall_fn, aCall_fn, ↓bnd_s, bnd_s, ↓bnd2_s, bnd2_s, ↓onB_t, onB_t, ↓onB_f, onB_f, ↓onG_tt, onG_tt, ↓onG_tf, onG_tf, ↓onG_ft, onG_ft, ↓onG_ff, onG_ff, ↓onG_s, onG_s, ↓onT_t, onT_t, ↓aPick_t, aPick_t, ↓aPick_f, aPick_f, decide_true, decide_false, st_tmp, results1, results2, List.lookup_cons, List.lookup_nil, Nat.reduceBEq, Bool.false_eq_true, ↓reduceIte, BEq.rfl, Nat.reduceLT, Option.getD_some, Option.getD_none, ↓r14_0, r14_0, ↓r14_1, r14_1, J14_1_0, J14_1_1, J14_1_2, J14_1_3, J14_1_4, J14_1_5, J14_1_6, ↓r14_2, r14_2, ↓r14_3, r14_3, ↓r14_4, r14_4, J14_4_0, J14_4_1, J14_4_2, ↓r14_5, r14_5, ↓r14_6, r14_6, ↓r14_7, r14_7, ↓r14_8, r14_8, ↓r14_9, r14_9, ↓r14_10, r14_10, ↓r14_11, r14_11, ↓r14_12, r14_12, ↓r14_13, r14_13, ↓r14_14, r14_14, ↓r14_15, r14_15, ↓r14_16, r14_16, ↓r14_17, r14_17, ↓r14_18, r14_18, ↓r14_19, r14_19, ↓r14_20, r14_20, ↓r14_21, r14_21, ↓r14_22, r14_22, hx.len, bin_gtr, e1, bin_lss, e2, e3, e4]
  have e4 : decide (at' < 0) = false := decide_eq_false q4
  have ha : ¬ (8192 < b.length ∨ gen < 0 ∨ 2147483647 < gen ∨ at' < 0) := fun h => h.elim q1 fun h => h.elim q2 fun h => h.elim q3 q4
  have sk := size_ok (b.length : Int) (by omega) false h (k + 8)
  by_cases q5 : e < at'
  · have e5 : decide (e < at') = true := decide_eq_true q5
    rw [lay_full ha (.inl q5)]
    refine ⟨h, exFn_of e14 ?_, D, Keep.refl _ _⟩
    rw [fnK, ln0, s14]
    simp -implicitDefEqProofs only [↓runK_seq, runK_seq, ↓runK_cond, runK_cond, ↓runK_block, runK_block, ↓runK_loop, runK_loop, ↓runK_skip, runK_skip, ↓runK_ret, runK_ret, ↓runK_exit, runK_exit, ↓seqE_n, seqE_n, ↓seqE_e, seqE_e, ↓seqE_r, seqE_r, ↓blkE_n, blkE_n, ↓blkE_e, blkE_e, ↓blkE_r, blkE_r, ↓retK_n, retK_n, ↓retK_r, retK_r, ↓aCall_fn, aCall_fn, ↓bnd_s, bnd_s, ↓bnd2_s, bnd2_s, ↓onB_t, onB_t, ↓onB_f, onB_f, ↓onG_tt, onG_tt, ↓onG_tf, onG_tf, ↓onG_ft, onG_ft, ↓onG_ff, onG_ff, ↓onG_s, onG_s, ↓onT_t, onT_t, ↓aPick_t, aPick_t, ↓aPick_f, aPick_f, decide_true, decide_false, st_tmp, results1, results2, List.lookup_cons, List.lookup_nil, Nat.reduceBEq, Bool.false_eq_true, ↓reduceIte, BEq.rfl, Nat.reduceLT, Option.getD_some, Option.getD_none, ↓r14_0, r14_0, ↓r14_1, r14_1, J14_1_0, J14_1_1, J14_1_2, J14_1_3, J14_1_4, J14_1_5, J14_1_6, ↓r14_2, r14_2, ↓r14_3, r14_3, ↓r14_4, r14_4, J14_4_0, J14_4_1, J14_4_2, ↓r14_5, r14_5, ↓r14_6, r14_6, ↓r14_7, r14_7, ↓r14_8, r14_8, ↓r14_9, r14_9, ↓r14_10, r14_10, ↓r14_11, r14_11, ↓r14_12, r14_12, ↓r14_13, r14_13, ↓r14_14, r14_14, ↓r14_15, r14_15, ↓r14_16, r14_16, ↓r14_17, r14_17, ↓r14_18, r14_18, ↓r14_19, r14_19, ↓r14_20, r14_20, ↓r14_21, r14_21, ↓r14_22, r14_22, hx.len, bin_gtr, e1, bin_lss, e2, e3, e4, sk, e5]
  have e5 : decide (e < at') = false := decide_eq_false q5
  have mn : (if ((d.lasts.length : Nat) : Int) < e then ((d.lasts.length : Nat) : Int) else e) = min e d.lasts.length := by split <;> omega
  have ws : IntKind.i64.wrap (min e d.lasts.length - at') = min e d.lasts.length - at' := by rw [wrap_i64] <;> omega
  have lk := len_ok D false (k + 8)
  by_cases q6 : min e d.lasts.length - at' < sizeOf b.length
  · have e6 : decide (min e d.lasts.length - at' < sizeOf b.length) = true := decide_eq_true q6
    rw [lay_full ha (.inr q6)]
    refine ⟨h, exFn_of e14 ?_, D, Keep.refl _ _⟩
    rw [fnK, ln0, s14]
    simp -implicitDefEqProofs only [↓runK_seq, runK_seq, ↓runK_cond, runK_cond, ↓runK_block, runK_block, ↓runK_loop, runK_loop, ↓runK_skip, runK_skip, ↓runK_ret, runK_ret, ↓runK_exit, runK_exit, ↓seqE_n, seqE_n, ↓seqE_e, seqE_e, ↓seqE_r, seqE_r, ↓blkE_n, blkE_n, ↓blkE_e, blkE_e, ↓blkE_r, blkE_r, ↓retK_n, retK_n, ↓retK_r, retK_r, ↓aCall_fn, aCall_fn, ↓bnd_s, bnd_s, ↓bnd2_s, bnd2_s, ↓onB_t, onB_t, ↓onB_f, onB_f, ↓onG_tt, onG_tt, ↓onG_tf, onG_tf, ↓onG_ft, onG_ft, ↓onG_ff, onG_ff, ↓onG_s, onG_s, ↓onT_t, onT_t, ↓aPick_t, aPick_t, ↓aPick_f, aPick_f, decide_true, decide_false, st_tmp, results1, results2, List.lookup_cons, List.lookup_nil, Nat.reduceBEq, Bool.false_eq_true, ↓reduceIte, BEq.rfl, Nat.reduceLT, Option.getD_some, Option.getD_none, ↓r14_0, r14_0, ↓r14_1, r14_1, J14_1_0, J14_1_1, J14_1_2, J14_1_3, J14_1_4, J14_1_5, J14_1_6, ↓r14_2, r14_2, ↓r14_3, r14_3, ↓r14_4, r14_4, J14_4_0, J14_4_1, J14_4_2, ↓r14_5, r14_5, ↓r14_6, r14_6, ↓r14_7, r14_7, ↓r14_8, r14_8, ↓r14_9, r14_9, ↓r14_10, r14_10, ↓r14_11, r14_11, ↓r14_12, r14_12, ↓r14_13, r14_13, ↓r14_14, r14_14, ↓r14_15, r14_15, ↓r14_16, r14_16, ↓r14_17, r14_17, ↓r14_18, r14_18, ↓r14_19, r14_19, ↓r14_20, r14_20, ↓r14_21, r14_21, ↓r14_22, r14_22, hx.len, bin_gtr, e1, bin_lss, e2, e3, e4, sk, e5, lk, min2_i64, mn, bin_sub, ws, e6]
  have e6 : decide (min e d.lasts.length - at' < sizeOf b.length) = false := decide_eq_false q6
  obtain ⟨nn, hnn⟩ : ∃ nn : Nat, sizeOf b.length = nn := ⟨(sizeOf b.length).toNat, by unfold sizeOf; omega⟩
  have hnn1 : (nn : Int) = 1 + ((b.length : Int) + 63) / 64 := by rw [← hnn]; unfold sizeOf; omega
  obtain ⟨a, rfl⟩ : ∃ a : Nat, at' = a := ⟨at'.toNat, by omega⟩
  have hl1 := layLoop_loose (a : Int) b (nn - 1) 1 d
  have hl2 := layLoop_fuse (a : Int) b (nn - 1) 1 d
  obtain ⟨h1, f1, f2, f3⟩ := lay_loop (S := S) (p := p) (r := r) hx a nn (.int .i64 gen) (k + 6) (by omega) (by omega) (nn - 1) 1 (k + 9) d h (by omega) (by omega) (by omega) up D (by omega) hf
  rw [show ((1 : Nat) : Int) = 1 from rfl] at f1
  rw [lay_go ha (fun h => h.elim q5 q6) (l := layLoop (a : Int) b (nn - 1) 1 d) (by rw [hnn]; rfl)]
  rw [hnn] at sk e6
  generalize hL : layLoop (a : Int) b (nn - 1) 1 d = L at *
  obtain ⟨le, ld⟩ := L
  simp only at f1 f2 hl1 hl2 ⊢
  have pre : ∀ r : AV × Heap, (if le = 0 then seqE (runK C0 (exFn C0 E0 (k + 9)) false 14 (k + 9) (.seq (.seq (.region 13 (O14 13) false) (.seq (.region 14 (O14 14) false) (.cond (.tmp 77) (.seq (.region 15 (O14 15) false) .ret) .skip))) (.seq (.seq (.region 16 (O14 16) false) (.seq (.region 17 (O14 17) false) (.cond (.tmp 86) (.seq (.region 18 (O14 18) false) .ret) .skip))) (.seq (.seq (.region 19 (O14 19) false) (.seq (.region 20 (O14 20) false) (.cond (.tmp 91) (.seq (.region 21 (O14 21) false) .ret) .skip))) (.seq (.region 22 (O14 22) false) .ret)))) (retK [10, 11])) (retK [10, 11]) .normal (st 96 [(0, dp p), (1, .int .i64 a), (3, .int .i64 gen), (4, x), (12, .int .i64 nn), (13, .int .i64 nn), (52, .bool false)]) h1
      else some (.tuple [.int .i64 0, .int .i64 le], h1)) = some r → exFn C0 E0 (k + 9 + 1) false 14 [dp p, .int .i64 a, .int .i64 e, .int .i64 gen, x] h = some r := by
    intro r hr
    refine exFn_of e14 ?_
    rw [fnK, ln0, s14]
    simp -implicitDefEqProofs only [↓runK_seq, runK_seq, ↓runK_cond, runK_cond, ↓runK_block, runK_block, ↓runK_loop, runK_loop, ↓runK_skip, runK_skip, ↓runK_ret, runK_ret, ↓runK_exit, runK_exit, ↓seqE_n, seqE_n, ↓seqE_e, seqE_e, ↓seqE_r, seqE_r, ↓blkE_n, blkE_n, ↓blkE_e, blkE_e, ↓blkE_r, blkE_r, ↓retK_n, retK_n, ↓retK_r, retK_r, ↓aCall_fn, aCall_fn, ↓bnd_s, bnd_s, ↓bnd2_s, bnd2_s, ↓onB_t, onB_t, ↓onB_f, onB_f, ↓onG_tt, onG_tt, ↓onG_tf, onG_tf, ↓onG_ft, onG_ft, ↓onG_ff, onG_ff, ↓onG_s, onG_s, ↓onT_t, onT_t, ↓aPick_t, aPick_t, ↓aPick_f, aPick_f, decide_true, decide_false, st_tmp, results1, results2, List.lookup_cons, List.lookup_nil, Nat.reduceBEq, Bool.false_eq_true, ↓reduceIte, BEq.rfl, Nat.reduceLT, Option.getD_some, Option.getD_none, ↓r14_0, r14_0, ↓r14_1, r14_1, J14_1_0, J14_1_1, J14_1_2, J14_1_3, J14_1_4, J14_1_5, J14_1_6, ↓r14_2, r14_2, ↓r14_3, r14_3, ↓r14_4, r14_4, J14_4_0, J14_4_1, J14_4_2, ↓r14_5, r14_5, ↓r14_6, r14_6, ↓r14_7, r14_7, ↓r14_8, r14_8, ↓r14_9, r14_9, ↓r14_10, r14_10, ↓r14_11, r14_11, ↓r14_12, r14_12, ↓r14_13, r14_13, ↓r14_14, r14_14, ↓r14_15, r14_15, ↓r14_16, r14_16, ↓r14_17, r14_17, ↓r14_18, r14_18, ↓r14_19, r14_19, ↓r14_20, r14_20, ↓r14_21, r14_21, ↓r14_22, r14_22, hx.len, bin_gtr, e1, bin_lss, e2, e3, e4, sk, e5, lk, min2_i64, mn, bin_sub, ws, e6]
    rw [f1]
    rw [← hr]
    split
    · simp -implicitDefEqProofs only [↓runK_seq, runK_seq, ↓runK_cond, runK_cond, ↓runK_block, runK_block, ↓runK_loop, runK_loop, ↓runK_skip, runK_skip, ↓runK_ret, runK_ret, ↓runK_exit, runK_exit, ↓seqE_n, seqE_n, ↓seqE_e, seqE_e, ↓seqE_r, seqE_r, ↓blkE_n, blkE_n, ↓blkE_e, blkE_e, ↓blkE_r, blkE_r, ↓retK_n, retK_n, ↓retK_r, retK_r]
    · simp -implicitDefEqProofs only [↓runK_seq, runK_seq, ↓runK_cond, runK_cond, ↓runK_block, runK_block, ↓runK_loop, runK_loop, ↓runK_skip, runK_skip, ↓runK_ret, runK_ret, ↓runK_exit, runK_exit, ↓seqE_n, seqE_n, ↓seqE_e, seqE_e, ↓seqE_r, seqE_r, ↓blkE_n, blkE_n, ↓blkE_e, blkE_e, ↓blkE_r, blkE_r, ↓retK_n, retK_n, ↓retK_r, retK_r, ↓aCall_fn, aCall_fn, ↓bnd_s, bnd_s, ↓bnd2_s, bnd2_s, ↓onB_t, onB_t, ↓onB_f, onB_f, ↓onG_tt, onG_tt, ↓onG_tf, onG_tf, ↓onG_ft, onG_ft, ↓onG_ff, onG_ff, ↓onG_s, onG_s, ↓onT_t, onT_t, ↓aPick_t, aPick_t, ↓aPick_f, aPick_f, decide_true, decide_false, st_tmp, results1, results2, List.lookup_cons, List.lookup_nil, Nat.reduceBEq, Bool.false_eq_true, ↓reduceIte, BEq.rfl, Nat.reduceLT, Option.getD_some, Option.getD_none]
  by_cases z1 : le = 0
  case neg =>
    rw [if_pos z1]
    refine ⟨h1, pre _ ?_, f2, f3⟩
    rw [if_neg z1]
  subst z1
  rw [if_neg (fun h => h rfl)]
  have c0 : decide ((0 : Int) ≠ 0) = false := by decide
  have up1 := up.keep f3
  obtain ⟨h2, g1, g2, g3⟩ := flush_ok f2 up1 (by omega) (by omega) false (k + 8) (by omega)
  have ffz := flush_fuse ld
  have flo := flush_loose ld
  generalize ld.flush = F at *
  obtain ⟨fe, fd⟩ := F
  simp only at g1 g2 ffz flo ⊢
  by_cases z2 : fe = 0
  case neg =>
    rw [if_pos z2]
    refine ⟨h2, pre _ ?_, g2, f3.trans g3⟩
    have c1 : decide (fe ≠ 0) = true := decide_eq_true z2
    rw [if_pos rfl]
    simp -implicitDefEqProofs only [↓runK_seq, runK_seq, ↓runK_cond, runK_cond, ↓runK_block, runK_block, ↓runK_loop, runK_loop, ↓runK_skip, runK_skip, ↓runK_ret, runK_ret, ↓runK_exit, runK_exit, ↓seqE_n, seqE_n, ↓seqE_e, seqE_e, ↓seqE_r, seqE_r, ↓blkE_n, blkE_n, ↓blkE_e, blkE_e, ↓blkE_r, blkE_r, ↓retK_n, retK_n, ↓retK_r, retK_r, ↓aCall_fn, aCall_fn, ↓bnd_s, bnd_s, ↓bnd2_s, bnd2_s, ↓onB_t, onB_t, ↓onB_f, onB_f, ↓onG_tt, onG_tt, ↓onG_tf, onG_tf, ↓onG_ft, onG_ft, ↓onG_ff, onG_ff, ↓onG_s, onG_s, ↓onT_t, onT_t, ↓aPick_t, aPick_t, ↓aPick_f, aPick_f, decide_true, decide_false, st_tmp, results1, results2, List.lookup_cons, List.lookup_nil, Nat.reduceBEq, Bool.false_eq_true, ↓reduceIte, BEq.rfl, Nat.reduceLT, Option.getD_some, Option.getD_none, ↓r14_0, r14_0, ↓r14_1, r14_1, J14_1_0, J14_1_1, J14_1_2, J14_1_3, J14_1_4, J14_1_5, J14_1_6, ↓r14_2, r14_2, ↓r14_3, r14_3, ↓r14_4, r14_4, J14_4_0, J14_4_1, J14_4_2, ↓r14_5, r14_5, ↓r14_6, r14_6, ↓r14_7, r14_7, ↓r14_8, r14_8, ↓r14_9, r14_9, ↓r14_10, r14_10, ↓r14_11, r14_11, ↓r14_12, r14_12, ↓r14_13, r14_13, ↓r14_14, r14_14, ↓r14_15, r14_15, ↓r14_16, r14_16, ↓r14_17, r14_17, ↓r14_18, r14_18, ↓r14_19, r14_19, ↓r14_20, r14_20, ↓r14_21, r14_21, ↓r14_22, r14_22, g1, neq27, c1]
  subst z2
  rw [if_neg (fun h => h rfl)]
  have up2 := up1.keep g3
  obtain ⟨y, h3, i1, i2, i3⟩ := first_ok hx (by omega) gen h2 (k + 8) (by omega)
  have g2' := g2.fresh i3
  have up3 := up2.keep i3
  obtain ⟨h4, j1, j2, j3⟩ := write_ok g2' up3 (a : Int) (U := fun _ => False) (b := head16 (BitVec.ofInt 32 gen) b) (.inl i2.bs) (fun _ _ h => h.elim) (by omega) (by omega) (k + 6)
  have wfz := write_fuse fd (a : Int) (head16 (BitVec.ofInt 32 gen) b)
  have wlo := write_loose fd (a : Int) (head16 (BitVec.ofInt 32 gen) b)
  have kk := (f3.trans g3).trans (i3.up up2)
  generalize fd.write (a : Int) (head16 (BitVec.ofInt 32 gen) b) = W at *
  obtain ⟨we, wd⟩ := W
  simp only at j1 j2 wfz wlo ⊢
  by_cases z3 : we = 0
  case neg =>
    rw [if_pos z3]
    refine ⟨h4, pre _ ?_, j2, kk.trans j3⟩
    have c1 : decide (we ≠ 0) = true := decide_eq_true z3
    rw [if_pos rfl]
    simp -implicitDefEqProofs only [↓runK_seq, runK_seq, ↓runK_cond, runK_cond, ↓runK_block, runK_block, ↓runK_loop, runK_loop, ↓runK_skip, runK_skip, ↓runK_ret, runK_ret, ↓runK_exit, runK_exit, ↓seqE_n, seqE_n, ↓seqE_e, seqE_e, ↓seqE_r, seqE_r, ↓blkE_n, blkE_n, ↓blkE_e, blkE_e, ↓blkE_r, blkE_r, ↓retK_n, retK_n, ↓retK_r, retK_r, ↓aCall_fn, aCall_fn, ↓bnd_s, bnd_s, ↓bnd2_s, bnd2_s, ↓onB_t, onB_t, ↓onB_f, onB_f, ↓onG_tt, onG_tt, ↓onG_tf, onG_tf, ↓onG_ft, onG_ft, ↓onG_ff, onG_ff, ↓onG_s, onG_s, ↓onT_t, onT_t, ↓aPick_t, aPick_t, ↓aPick_f, aPick_f, decide_true, decide_false, st_tmp, results1, results2, List.lookup_cons, List.lookup_nil, Nat.reduceBEq, Bool.false_eq_true, ↓reduceIte, BEq.rfl, Nat.reduceLT, Option.getD_some, Option.getD_none, ↓r14_0, r14_0, ↓r14_1, r14_1, J14_1_0, J14_1_1, J14_1_2, J14_1_3, J14_1_4, J14_1_5, J14_1_6, ↓r14_2, r14_2, ↓r14_3, r14_3, ↓r14_4, r14_4, J14_4_0, J14_4_1, J14_4_2, ↓r14_5, r14_5, ↓r14_6, r14_6, ↓r14_7, r14_7, ↓r14_8, r14_8, ↓r14_9, r14_9, ↓r14_10, r14_10, ↓r14_11, r14_11, ↓r14_12, r14_12, ↓r14_13, r14_13, ↓r14_14, r14_14, ↓r14_15, r14_15, ↓r14_16, r14_16, ↓r14_17, r14_17, ↓r14_18, r14_18, ↓r14_19, r14_19, ↓r14_20, r14_20, ↓r14_21, r14_21, ↓r14_22, r14_22, g1, neq27, c0, i1, j1, c1]
  subst z3
  rw [if_neg (fun h => h rfl)]
  have up4 := up3.keep j3
  obtain ⟨h5, l1, l2, l3⟩ := flush_ok j2 up4 (by omega) (by omega) false (k + 8) (by omega)
  generalize wd.flush = G at *
  obtain ⟨ge, gd⟩ := G
  simp only at l1 l2 ⊢
  by_cases z4 : ge = 0
  case neg =>
    rw [if_pos z4]
    refine ⟨h5, pre _ ?_, l2, (kk.trans j3).trans l3⟩
    have c1 : decide (ge ≠ 0) = true := decide_eq_true z4
    rw [if_pos rfl]
    simp -implicitDefEqProofs only [↓runK_seq, runK_seq, ↓runK_cond, runK_cond, ↓runK_block, runK_block, ↓runK_loop, runK_loop, ↓runK_skip, runK_skip, ↓runK_ret, runK_ret, ↓runK_exit, runK_exit, ↓seqE_n, seqE_n, ↓seqE_e, seqE_e, ↓seqE_r, seqE_r, ↓blkE_n, blkE_n, ↓blkE_e, blkE_e, ↓blkE_r, blkE_r, ↓retK_n, retK_n, ↓retK_r, retK_r, ↓aCall_fn, aCall_fn, ↓bnd_s, bnd_s, ↓bnd2_s, bnd2_s, ↓onB_t, onB_t, ↓onB_f, onB_f, ↓onG_tt, onG_tt, ↓onG_tf, onG_tf, ↓onG_ft, onG_ft, ↓onG_ff, onG_ff, ↓onG_s, onG_s, ↓onT_t, onT_t, ↓aPick_t, aPick_t, ↓aPick_f, aPick_f, decide_true, decide_false, st_tmp, results1, results2, List.lookup_cons, List.lookup_nil, Nat.reduceBEq, Bool.false_eq_true, ↓reduceIte, BEq.rfl, Nat.reduceLT, Option.getD_some, Option.getD_none, ↓r14_0, r14_0, ↓r14_1, r14_1, J14_1_0, J14_1_1, J14_1_2, J14_1_3, J14_1_4, J14_1_5, J14_1_6, ↓r14_2, r14_2, ↓r14_3, r14_3, ↓r14_4, r14_4, J14_4_0, J14_4_1, J14_4_2, ↓r14_5, r14_5, ↓r14_6, r14_6, ↓r14_7, r14_7, ↓r14_8, r14_8, ↓r14_9, r14_9, ↓r14_10, r14_10, ↓r14_11, r14_11, ↓r14_12, r14_12, ↓r14_13, r14_13, ↓r14_14, r14_14, ↓r14_15, r14_15, ↓r14_16, r14_16, ↓r14_17, r14_17, ↓r14_18, r14_18, ↓r14_19, r14_19, ↓r14_20, r14_20, ↓r14_21, r14_21, ↓r14_22, r14_22, g1, neq27, c0, i1, j1, l1, c1]
  subst z4
  rw [if_neg (fun h => h rfl)]
  refine ⟨h5, pre _ ?_, l2, (kk.trans j3).trans l3⟩
  have wf : IntKind.i64.wrap ((a : Int) + nn) = (a : Int) + nn := by rw [wrap_i64] <;> omega
  rw [if_pos rfl]
  simp -implicitDefEqProofs only [↓runK_seq, runK_seq, ↓runK_cond, runK_cond, ↓runK_block, runK_block, ↓runK_loop, runK_loop, ↓runK_skip, runK_skip, ↓runK_ret, runK_ret, ↓runK_exit, runK_exit, ↓seqE_n, seqE_n, ↓seqE_e, seqE_e, ↓seqE_r, seqE_r, ↓blkE_n, blkE_n, ↓blkE_e, blkE_e, ↓blkE_r, blkE_r, ↓retK_n, retK_n, ↓retK_r, retK_r, ↓aCall_fn, aCall_fn, ↓bnd_s, bnd_s, ↓bnd2_s, bnd2_s, ↓onB_t, onB_t, ↓onB_f, onB_f, ↓onG_tt, onG_tt, ↓onG_tf, onG_tf, ↓onG_ft, onG_ft, ↓onG_ff, onG_ff, ↓onG_s, onG_s, ↓onT_t, onT_t, ↓aPick_t, aPick_t, ↓aPick_f, aPick_f, decide_true, decide_false, st_tmp, results1, results2, List.lookup_cons, List.lookup_nil, Nat.reduceBEq, Bool.false_eq_true, ↓reduceIte, BEq.rfl, Nat.reduceLT, Option.getD_some, Option.getD_none, ↓r14_0, r14_0, ↓r14_1, r14_1, J14_1_0, J14_1_1, J14_1_2, J14_1_3, J14_1_4, J14_1_5, J14_1_6, ↓r14_2, r14_2, ↓r14_3, r14_3, ↓r14_4, r14_4, J14_4_0, J14_4_1, J14_4_2, ↓r14_5, r14_5, ↓r14_6, r14_6, ↓r14_7, r14_7, ↓r14_8, r14_8, ↓r14_9, r14_9, ↓r14_10, r14_10, ↓r14_11, r14_11, ↓r14_12, r14_12, ↓r14_13, r14_13, ↓r14_14, r14_14, ↓r14_15, r14_15, ↓r14_16, r14_16, ↓r14_17, r14_17, ↓r14_18, r14_18, ↓r14_19, r14_19, ↓r14_20, r14_20, ↓r14_21, r14_21, ↓r14_22, r14_22, g1, neq27, c0, i1, j1, l1, bin_add, wf, hnn]
end Go.Ax

/- What the regions of some functions hand on. Printed by a program of mine (gen.py). -/
set_option linter.unusedVariables false
namespace Go.Ax
open Go Go.Proofs
/-! ### interregnum/region.Scan -/
noncomputable def O15 (i : Nat) : Array Oper := opsOf i (bodyOf Try.f15)
noncomputable def B15_1 : Code := (.block 1 (.seq (.region 2 (O15 2) false) (.seq (.seq (.region 3 (O15 3) false) (.cond (Go.Operand.tmp 22) (.seq (.region 4 (O15 4) false) .ret) .skip)) (.seq (.region 5 (O15 5) false) (.region 6 (O15 6) false)))))
theorem s15 : bodyOf Try.f15 = (.seq (.region 0 (O15 0) false) (.seq (.region 1 (O15 1) false) (.block 0 (.loop B15_1)))) := by kernel_rfl
theorem e15 : E0 15 = some ⟨34, [8, 9], bodyOf Try.f15⟩ := by kernel_rfl
theorem r15_0 {β : Type} (call : CallF) (md : Bool) (n : Nat) (k : Ex → List AV → Heap → Option β) (x0 x1 x2 x3 : AV) (h : Heap) :
    runK C0 call md 15 n (.region 0 (O15 0) false) k (st 34 [(0, x0), (1, x1), (2, x2), (3, x3)]) h =
    k .normal (st 34 [(0, x0), (1, x1), (2, x2), (3, x3)]) h
  := by kernel_rfl
theorem r15_1 {β : Type} (call : CallF) (md : Bool) (n : Nat) (k : Ex → List AV → Heap → Option β) (x0 x1 x2 x3 : AV) (h : Heap) :
    runK C0 call md 15 n (.region 1 (O15 1) false) k (st 34 [(0, x0), (1, x1), (2, x2), (3, x3)]) h =
    k .normal (st 34 [(0, x0), (1, x1), (2, x2), (3, x3), (10, .nils)]) h
  := by kernel_rfl
theorem r15_2 {β : Type} (call : CallF) (md : Bool) (n : Nat) (k : Ex → List AV → Heap → Option β) (x0 x1 x2 x3 x10 : AV) (h : Heap) :
    runK C0 call md 15 n (.region 2 (O15 2) false) k (st 34 [(0, x0), (1, x1), (2, x2), (3, x3), (10, x10)]) h =
    bnd2 (aCall call md (.fn (.func 48) []) [x0, x1, x2, x3] h) fun v1 h2 =>
    bnd (aExtract v1 0) fun v3 =>
    bnd (aExtract v1 1) fun v4 =>
    k .normal (st 34 [(0, x0), (1, x1), (2, x2), (3, x3), (10, x10), (11, v3), (12, v4)]) h2
  := by kernel_rfl
theorem r15_3 {β : Type} (call : CallF) (md : Bool) (n : Nat) (k : Ex → List AV → Heap → Option β) (x0 x1 x2 x3 x10 x11 x12 : AV) (h : Heap) :
    runK C0 call md 15 n (.region 3 (O15 3) false) k (st 34 [(0, x0), (1, x1), (2, x2), (3, x3), (10, x10), (11, x11), (12, x12)]) h =
    bnd (aUn .not x12) fun v1 =>
    k .normal (st 34 [(0, x0), (1, x1), (2, x2), (3, x3), (10, x10), (11, x11), (22, v1)]) h
  := by kernel_rfl
theorem r15_4 {β : Type} (call : CallF) (md : Bool) (n : Nat) (k : Ex → List AV → Heap → Option β) (x0 x1 x2 x3 x10 x11 x22 : AV) (h : Heap) :
    runK C0 call md 15 n (.region 4 (O15 4) false) k (st 34 [(0, x0), (1, x1), (2, x2), (3, x3), (10, x10), (11, x11), (22, x22)]) h =
    k .normal (st 34 [(8, x10), (9, x1)]) h
  := by kernel_rfl
theorem r15_5 {β : Type} (call : CallF) (md : Bool) (n : Nat) (k : Ex → List AV → Heap → Option β) (x0 x1 x2 x3 x10 x11 x22 : AV) (h : Heap) :
    runK C0 call md 15 n (.region 5 (O15 5) false) k (st 34 [(0, x0), (1, x1), (2, x2), (3, x3), (10, x10), (11, x11), (22, x22)]) h =
    bnd (aLit tab 30 1 [(0, x11)]) fun v1 =>
    bnd2 (aApp tab 30 30 md x10 v1 h) fun v2 h3 =>
    k .normal (st 34 [(0, x0), (1, x1), (2, x2), (3, x3), (10, v2), (11, x11)]) h3
  := by kernel_rfl
theorem r15_6 {β : Type} (call : CallF) (md : Bool) (n : Nat) (k : Ex → List AV → Heap → Option β) (x0 x1 x2 x3 x10 x11 : AV) (h : Heap) :
    runK C0 call md 15 n (.region 6 (O15 6) false) k (st 34 [(0, x0), (1, x1), (2, x2), (3, x3), (10, x10), (11, x11)]) h =
    bnd (aLen tab 22 x11) fun v1 =>
    bnd2 (aCall call md (.fn (.func 45) []) [v1] h) fun v2 h3 =>
    bnd (aBinC tab .add 3 x1 v2 false) fun v4 =>
    k .normal (st 34 [(0, x0), (1, v4), (2, x2), (3, x3), (10, x10)]) h3
  := by kernel_rfl
end Go.Ax

/- region.Scan: the entries of a generation. -/
namespace Go.Ax
open Go Go.Proofs

theorem oneOf_some {now : List (List UInt8)} (hc : ∀ b ∈ now, b.length = 64) {at' e gen : Int} {b : List UInt8} (h : oneOf now at' e gen = some b) :
    0 ≤ at' ∧ at' + sizeOf b.length ≤ now.length ∧ at' + sizeOf b.length ≤ e ∧ b.length ≤ 8192 := by
  unfold oneOf at h
  split at h
  · rename_i h0
    simp only at h
    split at h
    · cases h
    · split at h
      · cases h
      · rename_i h1 h2
        split at h
        · generalize hs : (get4 (((now[at'.toNat]?).getD []).drop 4)).toNat = size at *
          have h3 : ¬ 8192 < size := fun x => h2 (.inl x)
          have h4 : ¬ min e now.length - at' < sizeOf size := fun x => h2 (.inr x)
          have hl := bodyAt_length now hc at'.toNat ((sizeOf size).toNat - 1) (by unfold sizeOf at h4 ⊢; omega)
          have hb : b.length = size := by
            cases h
            rw [List.length_take, hl]
            unfold sizeOf
            omega
          rw [hb]
          exact ⟨h0.1, by omega, by omega, by omega⟩
        · cases h
  · cases h

theorem sizeOf_pos (n : Int) : 1 ≤ sizeOf n := by unfold sizeOf; omega

/-- The entries from a sector on, and the sector behind them. -/
def scanOf (now : List (List UInt8)) (e gen : Int) : Nat → Int → List (List UInt8) × Int
  | 0, a => ([], a)
  | f + 1, a => match oneOf now a e gen with
    | none => ([], a)
    | some b => (b :: (scanOf now e gen f (a + sizeOf b.length)).1, (scanOf now e gen f (a + sizeOf b.length)).2)

theorem scanOf_none {now : List (List UInt8)} {e gen a : Int} {f : Nat} (h : oneOf now a e gen = none) : scanOf now e gen (f + 1) a = ([], a) := by simp [scanOf, h]
theorem scanOf_some {now : List (List UInt8)} {e gen a : Int} {f : Nat} {b : List UInt8} (h : oneOf now a e gen = some b) :
    scanOf now e gen (f + 1) a = (b :: (scanOf now e gen f (a + sizeOf b.length)).1, (scanOf now e gen f (a + sizeOf b.length)).2) := by simp [scanOf, h]

/-- Byte slices of so many contents. -/
inductive BsL : List AV → List (List UInt8) → Prop
  | nil : BsL [] []
  | cons {v l vs ls} : Bs v l → BsL vs ls → BsL (v :: vs) (l :: ls)

/-- Lists of bytes to append to. -/
def ApR (S : Obs) (h : Heap) (x : AV) (ls : List (List UInt8)) : Prop := ∃ vs, Ap 22 S h x vs ∧ BsL vs ls

theorem Bs.fits {x : AV} {l : List UInt8} (b : Bs x l) : fits tab 22 x = true := by
  rcases b with ⟨rfl, -⟩ | ⟨k, rfl⟩ <;> rfl
theorem lit30 (v : AV) (h : fits tab 22 v = true) : aLit tab 30 1 [(0, v)] = some (.vsl 22 [v] .exact) := by simp [aLit, aElems, aFill, h]
theorem app30 (x : AV) (new : List AV) (k : Tok) (h : Heap) : aApp tab 30 30 false x (.vsl 22 new k) h = aAppend tab 22 false x new h := by kernel_rfl

theorem BsL.length : ∀ {l : List AV} {m : List (List UInt8)}, BsL l m → l.length = m.length
  | _, _, .nil => rfl
  | _, _, .cons _ t => by simp [BsL.length t]
theorem BsL.append : ∀ {l l' : List AV} {m m' : List (List UInt8)}, BsL l m → BsL l' m' → BsL (l ++ l') (m ++ m')
  | _, _, _, _, .nil, h => h
  | _, _, _, _, .cons a t, h => .cons a (BsL.append t h)

theorem ApR.append {S : Obs} {h : Heap} {x v : AV} {ls : List (List UInt8)} {b : List UInt8} (a : ApR S h x ls) (up : Up S h) (hv : Bs v b) (hl : ls.length < 2 ^ 40) :
    ∃ x' h', aAppend tab 22 false x [v] h = some (x', h') ∧ ApR S h' x' (ls ++ [b]) ∧ Keep S h h' := by
  obtain ⟨vs, ha, hf⟩ := a
  have e := hf.length
  obtain ⟨x', h', kk, ap, -, ha2, k2, -⟩ := Ap.append (T := tab) (e := 22) (S := S) (h := h) (x := x) (l := vs) (new := [v]) (by rw [tu22]; exact ha) up (by simp) (by simp)
    (by simp only [tb22, List.length_singleton]; omega) (by simp only [List.length_singleton]; omega) (by simp)
  rw [tu22] at ha2
  exact ⟨x', h', ap, ⟨_, ha2, hf.append (.cons hv .nil)⟩, k2⟩

theorem ApR.fresh {S : Obs} {h h' : Heap} {x : AV} {ls : List (List UInt8)} (a : ApR S h x ls) (k : Keep (From h.length) h h') : ApR S h' x ls := by
  obtain ⟨vs, ha, hf⟩ := a
  exact ⟨vs, ha.fresh k, hf⟩

theorem scan_loop {S U : Obs} {p r : Nat} {d : Dk} (hl : d.loose.length < 2 ^ 30) (dis : ∀ i, S i → ¬ U i) (e gen : Int) (N : Nat) (hN : d.loose.length + 9000 < N) :
    ∀ (f n : Nat) (a : Int) (acc : AV) (h : Heap) (ls : List (List UInt8)), (0 ≤ a → (d.lasts.length : Int) - a < f) → f ≤ n → 0 < f → Up U h → Dsk S h p r d → ApR U h acc ls → ls.length + (f : Int) < 2 ^ 39 →
    ∃ acc' h', (∀ K : Ex → List AV → Heap → Option (AV × Heap), loopK (fun next => runK C0 (exFn C0 E0 (N + 1)) false 15 (N + 1) B15_1 (seqE next K)) n (st 34 [(0, dp p), (1, .int .i64 a), (2, .int .i64 e), (3, .int .i64 gen), (10, acc)]) h =
      K .ret (st 34 [(8, acc'), (9, .int .i64 (scanOf d.now e gen f a).2)]) h') ∧
      ApR U h' acc' (ls ++ (scanOf d.now e gen f a).1) ∧ Keep U h h' := by
  intro f
  induction f with
  | zero => intro n a acc h ls _ _ h0; omega
  | succ f ih =>
    intro n a acc h ls hf hn _ up D hacc hll
    obtain ⟨n, rfl⟩ : ∃ j, n = j + 1 := ⟨n - 1, by omega⟩
    obtain ⟨x, h1, r1, r2, r3⟩ := one_ok D hl a e gen N hN
    have D1 := D.fresh r3
    have acc1 := hacc.fresh r3
    have up1 := up.keep r3
    cases ho : oneOf d.now a e gen with
    | none =>
      rw [ho] at r1
      rw [scanOf_none ho]
      refine ⟨acc, h1, fun K => ?_, by simpa using acc1, r3.up up⟩
      rw [loopK_succ]
      generalize loopK (_ : (List AV → Heap → Option (AV × Heap)) → List AV → Heap → Option (AV × Heap)) n = Lp
      simp -implicitDefEqProofs only [B15_1, ↓runK_seq, runK_seq, ↓runK_cond, runK_cond, ↓runK_block, runK_block, ↓runK_loop, runK_loop, ↓runK_skip, runK_skip, ↓runK_ret, runK_ret, ↓runK_exit, runK_exit, ↓seqE_n, seqE_n, ↓seqE_e, seqE_e, ↓seqE_r, seqE_r, ↓blkE_n, blkE_n, ↓blkE_e, blkE_e, ↓blkE_r, blkE_r, ↓retK_n, retK_n, ↓retK_r, retK_r, ↓aCall_fn, aCall_fn, ↓bnd_s, bnd_s, ↓bnd2_s, bnd2_s, ↓onB_t, onB_t, ↓onB_f, onB_f, ↓onG_tt, onG_tt, ↓onG_tf, onG_tf, ↓onG_ft, onG_ft, ↓onG_ff, onG_ff, ↓onG_s, onG_s, ↓onT_t, onT_t, ↓aPick_t, aPick_t, ↓aPick_f, aPick_f, decide_true, decide_false, st_tmp, results1, results2, List.lookup_cons, List.lookup_nil, Nat.reduceBEq, Bool.false_eq_true, ↓reduceIte, BEq.rfl, Nat.reduceLT, Option.getD_some, Option.getD_none, ↓r15_0, r15_0, ↓r15_1, r15_1, ↓r15_2, r15_2, ↓r15_3, r15_3, ↓r15_4, r15_4, ↓r15_5, r15_5, ↓r15_6, r15_6, r1, ext0, ext1, un_not, Option.isSome_none, Bool.not_false]
    | some b =>
      rw [ho] at r1
      obtain ⟨b1, b2, b3, b4⟩ := oneOf_some D.now_cells ho
      have hf := hf b1
      rw [D.now_length] at b2
      have hfew := D.few
      have hsp := sizeOf_pos b.length
      rw [scanOf_some ho]
      have bs := (r2 b ho).bs
      obtain ⟨acc', h2, ap, a2, k2⟩ := acc1.append up1 bs (by omega)
      have sk := size_ok (b.length : Int) (by omega) false h2 N
      have wr : IntKind.i64.wrap (a + sizeOf b.length) = a + sizeOf b.length := by rw [wrap_i64] <;> omega
      have k12 := (r3.up up).trans k2
      obtain ⟨acc'', h3, g1, g2, g3⟩ := ih n (a + sizeOf b.length) acc' h2 (ls ++ [b]) (by omega) (by omega) (by omega) (up1.keep k2) (D.keep k12 fun j _ hj => dis j hj) a2 (by simp only [List.length_append, List.length_singleton]; omega)
      refine ⟨acc'', h3, fun K => ?_, by simpa using g2, k12.trans g3⟩
      rw [loopK_succ, ← g1 K]
      generalize loopK (_ : (List AV → Heap → Option (AV × Heap)) → List AV → Heap → Option (AV × Heap)) n = Lp
      simp -implicitDefEqProofs only [B15_1, ↓runK_seq, runK_seq, ↓runK_cond, runK_cond, ↓runK_block, runK_block, ↓runK_loop, runK_loop, ↓runK_skip, runK_skip, ↓runK_ret, runK_ret, ↓runK_exit, runK_exit, ↓seqE_n, seqE_n, ↓seqE_e, seqE_e, ↓seqE_r, seqE_r, ↓blkE_n, blkE_n, ↓blkE_e, blkE_e, ↓blkE_r, blkE_r, ↓retK_n, retK_n, ↓retK_r, retK_r, ↓aCall_fn, aCall_fn, ↓bnd_s, bnd_s, ↓bnd2_s, bnd2_s, ↓onB_t, onB_t, ↓onB_f, onB_f, ↓onG_tt, onG_tt, ↓onG_tf, onG_tf, ↓onG_ft, onG_ft, ↓onG_ff, onG_ff, ↓onG_s, onG_s, ↓onT_t, onT_t, ↓aPick_t, aPick_t, ↓aPick_f, aPick_f, decide_true, decide_false, st_tmp, results1, results2, List.lookup_cons, List.lookup_nil, Nat.reduceBEq, Bool.false_eq_true, ↓reduceIte, BEq.rfl, Nat.reduceLT, Option.getD_some, Option.getD_none, ↓r15_0, r15_0, ↓r15_1, r15_1, ↓r15_2, r15_2, ↓r15_3, r15_3, ↓r15_4, r15_4, ↓r15_5, r15_5, ↓r15_6, r15_6, r1, ext0, ext1, un_not, Option.isSome_some, Bool.not_true, lit30 _ bs.fits, app30, ap, bs.len, sk, bin_add, wr]

def Dk.scan (d : Dk) (a e gen : Int) : List (List UInt8) × Int := scanOf d.now e gen (d.lasts.length + 1) a

theorem scanOf_neg {now : List (List UInt8)} {e gen a : Int} (h : a < 0) (f : Nat) : scanOf now e gen f a = ([], a) := by
  cases f with
  | zero => rfl
  | succ f => exact scanOf_none (oneOf_out (by omega))

theorem scan_ok {S : Obs} {p r : Nat} {h : Heap} {d : Dk} (D : Dsk S h p r d) (hl : d.loose.length < 2 ^ 30) (a e gen : Int) (k : Nat) (hk : d.loose.length + 9001 < k) :
    ∃ x h', exFn C0 E0 (k + 1) false 15 [dp p, .int .i64 a, .int .i64 e, .int .i64 gen] h = some (.tuple [x, .int .i64 (d.scan a e gen).2], h') ∧
      ApR (From h.length) h' x (d.scan a e gen).1 ∧ Keep (From h.length) h h' := by
  obtain ⟨k, rfl⟩ : ∃ j, k = j + 1 := ⟨k - 1, by omega⟩
  have hfew := D.few
  have n0 : ([dp p, .int .i64 a, .int .i64 e, .int .i64 gen] ++ List.replicate (34 - [dp p, .int .i64 a, .int .i64 e, .int .i64 gen].length) AV.undef) = st 34 [(0, dp p), (1, .int .i64 a), (2, .int .i64 e), (3, .int .i64 gen)] := rfl
  obtain ⟨x, h', h1, h2, h3⟩ := scan_loop (U := From h.length) hl (S := fun i => i < h.length) (fun i hi hj => absurd hj (Nat.not_le.2 hi)) e gen k (by omega) (d.lasts.length + 1) (k + 1) a .nils h [] (by omega) (by omega) (by omega)
    (Up.fresh h) D.low ⟨[], .inl ⟨rfl, rfl⟩, .nil⟩ (by simp only [List.length_nil]; omega)
  refine ⟨x, h', exFn_of e15 ?_, h2, h3⟩
  rw [fnK, n0, s15]
  simp -implicitDefEqProofs only [↓runK_seq, runK_seq, ↓runK_cond, runK_cond, ↓runK_block, runK_block, ↓runK_loop, runK_loop, ↓runK_skip, runK_skip, ↓runK_ret, runK_ret, ↓runK_exit, runK_exit, ↓seqE_n, seqE_n, ↓seqE_e, seqE_e, ↓seqE_r, seqE_r, ↓blkE_n, blkE_n, ↓blkE_e, blkE_e, ↓blkE_r, blkE_r, ↓retK_n, retK_n, ↓retK_r, retK_r, ↓aCall_fn, aCall_fn, ↓bnd_s, bnd_s, ↓bnd2_s, bnd2_s, ↓onB_t, onB_t, ↓onB_f, onB_f, ↓onG_tt, onG_tt, ↓onG_tf, onG_tf, ↓onG_ft, onG_ft, ↓onG_ff, onG_ff, ↓onG_s, onG_s, ↓onT_t, onT_t, ↓aPick_t, aPick_t, ↓aPick_f, aPick_f, decide_true, decide_false, st_tmp, results1, results2, List.lookup_cons, List.lookup_nil, Nat.reduceBEq, Bool.false_eq_true, ↓reduceIte, BEq.rfl, Nat.reduceLT, Option.getD_some, Option.getD_none, ↓r15_0, r15_0, ↓r15_1, r15_1, ↓r15_2, r15_2, ↓r15_3, r15_3, ↓r15_4, r15_4, ↓r15_5, r15_5, ↓r15_6, r15_6]
  rw [h1]
  simp -implicitDefEqProofs only [↓runK_seq, runK_seq, ↓runK_cond, runK_cond, ↓runK_block, runK_block, ↓runK_loop, runK_loop, ↓runK_skip, runK_skip, ↓runK_ret, runK_ret, ↓runK_exit, runK_exit, ↓seqE_n, seqE_n, ↓seqE_e, seqE_e, ↓seqE_r, seqE_r, ↓blkE_n, blkE_n, ↓blkE_e, blkE_e, ↓blkE_r, blkE_r, ↓retK_n, retK_n, ↓retK_r, retK_r, ↓aCall_fn, aCall_fn, ↓bnd_s, bnd_s, ↓bnd2_s, bnd2_s, ↓onB_t, onB_t, ↓onB_f, onB_f, ↓onG_tt, onG_tt, ↓onG_tf, onG_tf, ↓onG_ft, onG_ft, ↓onG_ff, onG_ff, ↓onG_s, onG_s, ↓onT_t, onT_t, ↓aPick_t, aPick_t, ↓aPick_f, aPick_f, decide_true, decide_false, st_tmp, results1, results2, List.lookup_cons, List.lookup_nil, Nat.reduceBEq, Bool.false_eq_true, ↓reduceIte, BEq.rfl, Nat.reduceLT, Option.getD_some, Option.getD_none, Dk.scan]
end Go.Ax

/- Plain laws: what Lay has laid on a disk that is up, Scan finds. -/
namespace Go.Ax
open Go Go.Proofs

/-- A disk that is up, and stays so; nothing is loose. -/
def Calm (l : List (List UInt8)) : Dk := ⟨l, [], -1, false⟩

def parts (a : Nat) (b : List UInt8) (i m : Nat) : List (Nat × List UInt8) := (List.range' i m).map fun j => (a + j, pad (chunk b j))

theorem parts_succ (a : Nat) (b : List UInt8) (i m : Nat) : parts a b i (m + 1) = (a + i, pad (chunk b i)) :: parts a b (i + 1) m := by
  simp [parts, List.range'_succ]
theorem parts_snoc (a : Nat) (b : List UInt8) (i m : Nat) : parts a b i (m + 1) = parts a b i m ++ [(a + (i + m), pad (chunk b (i + m)))] := by
  simp [parts, List.range'_concat]

theorem chunk_length (b : List UInt8) (i : Nat) : (chunk b i).length ≤ 64 := by unfold chunk; rw [List.length_take]; omega
theorem pad_length (b : List UInt8) (h : b.length ≤ 64) : (pad b).length = 64 := by unfold pad; simp; omega

theorem calm_write (l : List (List UInt8)) (ws : List (Nat × List UInt8)) (a : Nat) (b : List UInt8) (ha : a < l.length) (hb : b.length ≤ 64) :
    (⟨l, ws, -1, false⟩ : Dk).write a b = (0, ⟨l, ws ++ [(a, pad b)], -1, false⟩) := by
  unfold Dk.write
  rw [if_neg (by rintro (h | h); exact h ⟨by omega, by simpa using ha⟩; omega)]
  simp [Dk.burn, Dk.add]
theorem calm_flush (l : List (List UInt8)) (ws : List (Nat × List UInt8)) : (⟨l, ws, -1, false⟩ : Dk).flush = (0, Calm (land l ws)) := by
  simp [Dk.flush, Dk.burn, Dk.now, Calm]

theorem calm_loop (l : List (List UInt8)) (a : Nat) (b : List UInt8) : ∀ (m i : Nat) (ws : List (Nat × List UInt8)), a + i + m ≤ l.length →
    layLoop a b m i ⟨l, ws, -1, false⟩ = (0, ⟨l, ws ++ parts a b i m, -1, false⟩) := by
  intro m
  induction m with
  | zero => intro i ws _; simp [layLoop, parts]
  | succ m ih =>
    intro i ws h
    have e : ((a : Int) + i) = ((a + i : Nat) : Int) := by omega
    have w := calm_write l ws (a + i) (chunk b i) (by omega) (chunk_length b i)
    rw [layLoop_go (by rw [e, w]), e, w, ih (i + 1) _ (by omega), parts_succ]
    simp

def nOf (b : List UInt8) : Nat := (sizeOf b.length).toNat
theorem nOf_eq (b : List UInt8) : (nOf b : Int) = sizeOf b.length := by unfold nOf sizeOf; omega
theorem nOf_eq' (b : List UInt8) : nOf b = 1 + (b.length + 63) / 64 := by unfold nOf sizeOf; omega

theorem head16_length (g : BitVec 32) (b : List UInt8) : (head16 g b).length = 16 := by simp [head16, head12, be4]

/-- The sectors behind a Lay. -/
def laid (l : List (List UInt8)) (a : Nat) (gen : Int) (b : List UInt8) : List (List UInt8) := land l (parts a b 1 (nOf b - 1) ++ [(a, pad (head16 (BitVec.ofInt 32 gen) b))])

theorem land_append (l : List (List UInt8)) (u v : List (Nat × List UInt8)) : land l (u ++ v) = land (land l u) v := by simp [land]

theorem lay_calm (l : List (List UInt8)) (a : Nat) (e gen : Int) (b : List UInt8) (hb : b.length ≤ 8192) (h0 : 0 ≤ gen) (h1 : gen ≤ 2147483647) (he : (a : Int) ≤ e) (hn : sizeOf b.length ≤ min e l.length - a) :
    (Calm l).lay a e gen b = ((((a + nOf b : Nat) : Int), 0), Calm (laid l a gen b)) := by
  have hn1 := nOf_eq b
  have hn2 := nOf_eq' b
  have hloop := calm_loop l a b (nOf b - 1) 1 [] (by omega)
  rw [lay_go (d := Calm l) (l := (0, ⟨l, parts a b 1 (nOf b - 1), -1, false⟩)) (by omega) (by show ¬ (_ ∨ min e (l.length : Int) - _ < _); omega) hloop]
  have hlen : (land l (parts a b 1 (nOf b - 1))).length = l.length := land_length _ _
  have w := calm_write (land l (parts a b 1 (nOf b - 1))) [] a (head16 (BitVec.ofInt 32 gen) b) (by omega) (by rw [head16_length]; omega)
  simp only [calm_flush]
  rw [show (Calm (land l (parts a b 1 (nOf b - 1)))) = ⟨land l (parts a b 1 (nOf b - 1)), [], -1, false⟩ from rfl, w]
  simp only [List.nil_append, calm_flush]
  rw [if_neg (fun h => h rfl), if_neg (fun h => h rfl), if_neg (fun h => h rfl), if_neg (fun h => h rfl), laid, land_append, ← hn1]
  simp

theorem land_parts (l : List (List UInt8)) (a : Nat) (b : List UInt8) (i : Nat) : ∀ (m j : Nat), a + i + m ≤ l.length →
    (land l (parts a b i m))[j]? = if a + i ≤ j ∧ j < a + i + m then some (pad (chunk b (j - a))) else l[j]? := by
  intro m
  induction m with
  | zero => intro j _; rw [if_neg (by omega)]; simp [parts, land]
  | succ m ih =>
    intro j h
    rw [parts_snoc, land_snoc]
    simp only
    by_cases hj : a + (i + m) = j
    · subst hj
      rw [List.getElem?_set_self (by rw [land_length]; omega), if_pos (by omega)]
      congr 3; omega
    · rw [List.getElem?_set_ne hj, ih j (by omega)]
      by_cases h2 : a + i ≤ j ∧ j < a + i + m
      · rw [if_pos h2, if_pos (by omega)]
      · rw [if_neg h2, if_neg (by omega)]

theorem laid_length (l : List (List UInt8)) (a : Nat) (gen : Int) (b : List UInt8) : (laid l a gen b).length = l.length := land_length _ _
theorem laid_head (l : List (List UInt8)) (a : Nat) (gen : Int) (b : List UInt8) (h : a < l.length) : (laid l a gen b)[a]? = some (pad (head16 (BitVec.ofInt 32 gen) b)) := by
  rw [laid, land_snoc]; simp [land_length, h]
theorem laid_get (l : List (List UInt8)) (a : Nat) (gen : Int) (b : List UInt8) (h : a + nOf b ≤ l.length) (j : Nat) (hj : j ≠ a) :
    (laid l a gen b)[j]? = if a < j ∧ j < a + nOf b then some (pad (chunk b (j - a))) else l[j]? := by
  have hn2 := nOf_eq' b
  rw [laid, land_snoc, List.getElem?_set_ne (by omega), land_parts l a b 1 _ j (by omega)]
  by_cases h2 : a < j ∧ j < a + nOf b
  · rw [if_pos h2, if_pos (by omega)]
  · rw [if_neg h2, if_neg (by omega)]

theorem pad_take {b : List UInt8} : (pad b).take b.length = b := by simp [pad]
theorem all_zero (n : Nat) : (List.replicate n (0 : UInt8)).all (· == 0) = true := by simp
theorem pad_drop {b : List UInt8} : (pad b).drop b.length = List.replicate (64 - b.length) 0 := by simp [pad]

/-- The sectors of an entry, one behind the other. -/
theorem body_chunks (now : List (List UInt8)) (a : Nat) (b : List UInt8) : ∀ m, 64 * m < b.length + 64 → (∀ j, 1 ≤ j → j ≤ m → now[a + j]? = some (pad (chunk b j))) →
    bodyAt now a m = b.take (64 * m) ++ List.replicate (64 * m - b.length) 0 := by
  intro m
  induction m with
  | zero => intro _ _; simp [bodyAt]
  | succ m ih =>
    intro hm hn
    rw [bodyAt_succ now a m _ (by rw [show a + 1 + m = a + (m + 1) by omega]; exact hn (m + 1) (by omega) (Nat.le_refl _)), ih (by omega) fun j h1 h2 => hn j h1 (by omega)]
    have z : 64 * m - b.length = 0 := by omega
    have tk : b.take (64 * (m + 1)) = b.take (64 * m) ++ chunk b (m + 1) := by
      rw [show 64 * (m + 1) = 64 * m + 64 by omega, List.take_add]; rfl
    have cl : (chunk b (m + 1)).length = min 64 (b.length - 64 * m) := by unfold chunk; simp
    rw [z, tk]
    unfold pad
    rw [cl, show 64 - min 64 (b.length - 64 * m) = 64 * (m + 1) - b.length by omega]
    simp

theorem one_at (now : List (List UInt8)) (a : Nat) (e gen : Int) (b : List UInt8) (hb : b.length ≤ 8192) (hh : now[a]? = some (pad (head16 (BitVec.ofInt 32 gen) b)))
    (he : (a : Int) < e) (hn : sizeOf b.length ≤ min e now.length - a) (hj : ∀ j, 1 ≤ j → j < nOf b → now[a + j]? = some (pad (chunk b j))) : oneOf now a e gen = some b := by
  have hn1 := nOf_eq b
  have hn2 := nOf_eq' b
  have hp : pad (head16 (BitVec.ofInt 32 gen) b) = be4 (BitVec.ofInt 32 gen) ++ (be4 (BitVec.ofNat 32 b.length) ++ (be4 (crc b) ++ (be4 (crc (head12 (BitVec.ofInt 32 gen) b)) ++ List.replicate 48 0))) := by
    unfold pad; rw [head16_length]; simp [head16, head12]
  have p0 : get4 (pad (head16 (BitVec.ofInt 32 gen) b)) = BitVec.ofInt 32 gen := by rw [hp, get4_be4]
  have p4 : get4 ((pad (head16 (BitVec.ofInt 32 gen) b)).drop 4) = BitVec.ofNat 32 b.length := by
    rw [hp, show ∀ (v : BitVec 32) r, (be4 v ++ r).drop 4 = r from fun _ _ => rfl, get4_be4]
  have p12 : get4 ((pad (head16 (BitVec.ofInt 32 gen) b)).drop 12) = crc (head12 (BitVec.ofInt 32 gen) b) := by
    rw [hp, show ∀ (u v w : BitVec 32) r, (be4 u ++ (be4 v ++ (be4 w ++ r))).drop 12 = r from fun _ _ _ _ => rfl, get4_be4]
  have t12 : (pad (head16 (BitVec.ofInt 32 gen) b)).take 12 = head12 (BitVec.ofInt 32 gen) b := by
    rw [hp]; rfl
  have t16 : (pad (head16 (BitVec.ofInt 32 gen) b)).take 16 = head16 (BitVec.ofInt 32 gen) b := by
    rw [hp]; rfl
  have d16 : (pad (head16 (BitVec.ofInt 32 gen) b)).drop 16 = List.replicate 48 0 := by
    rw [hp]; rfl
  have sz : (BitVec.ofNat 32 b.length).toNat = b.length := by simp; omega
  have bd := body_chunks now a b (nOf b - 1) (by omega) fun j h1 h2 => hj j h1 (by omega)
  rw [List.take_of_length_le (l := b) (by omega)] at bd
  have hgo := oneOf_go (now := now) (a := a) (nn := nOf b) (e := e) (gen := gen) hh (by rw [p0, t12, p12]; rintro (h | h | h); omega; exact h rfl; exact h rfl) (by rw [p4, sz]; omega) (by rw [p4, sz]; exact hn1.symm)
  rw [p4, sz] at hgo
  rw [hgo, bd, t16, d16, if_pos]
  · simp
  · refine ⟨by simp, all_zero _, ?_⟩
    simp

theorem one_not (now : List (List UInt8)) (a : Nat) (e gen : Int) (c : List UInt8) (hc : now[a]? = some c) (h : get4 c ≠ BitVec.ofInt 32 gen) : oneOf now a e gen = none := oneOf_head hc (.inr (.inl h))

theorem crc_zero12 : crc (List.replicate 12 0) ≠ 0#32 := by decide +kernel

theorem one_blank (now : List (List UInt8)) (a : Nat) (e gen : Int) (hc : now[a]? = some (List.replicate 64 0)) : oneOf now a e gen = none := by
  refine oneOf_head hc (.inr ?_)
  by_cases h : get4 (List.replicate 64 0) = BitVec.ofInt 32 gen
  · right
    rw [List.take_replicate, List.drop_replicate]
    exact crc_zero12
  · exact .inl h

/-- An entry alone is what is scanned. -/
theorem scan_one (l : List (List UInt8)) (a : Nat) (e gen : Int) (b : List UInt8) (hb : b.length ≤ 8192) (hn : sizeOf b.length ≤ min e l.length - a) (hz : l[a + nOf b]? = some (List.replicate 64 0)) :
    scanOf (laid l a gen b) e gen (l.length + 1) a = ([b], ((a + nOf b : Nat) : Int)) := by
  have hn1 := nOf_eq b
  have hn2 := nOf_eq' b
  have hlt := (List.getElem?_eq_some_iff.1 hz).1
  have h1 : oneOf (laid l a gen b) a e gen = some b := one_at _ a e gen b hb (laid_head l a gen b (by omega)) (by omega) (by rw [laid_length]; exact hn) fun j h1 h2 => by
    rw [laid_get l a gen b (by omega) (a + j) (by omega), if_pos (by omega)]
    congr 3; omega
  have h2 : oneOf (laid l a gen b) ((a + nOf b : Nat) : Int) e gen = none := one_blank _ _ e gen (by rw [laid_get l a gen b (by omega) _ (by omega), if_neg (by omega)]; exact hz)
  obtain ⟨f, hf⟩ : ∃ f, l.length = f + 1 := ⟨l.length - 1, by omega⟩
  rw [hf, scanOf_some h1, ← hn1, show ((a : Int) + (nOf b : Nat)) = ((a + nOf b : Nat) : Int) by omega, scanOf_none h2]

/-- An entry of another generation is none. -/
theorem scan_other (l : List (List UInt8)) (a : Nat) (e gen other : Int) (b : List UInt8) (ha : a < l.length) (hne : BitVec.ofInt 32 gen ≠ BitVec.ofInt 32 other) (f : Nat) :
    scanOf (laid l a gen b) e other (f + 1) a = ([], (a : Int)) := by
  refine scanOf_none (one_not _ a e other _ (laid_head l a gen b ha) ?_)
  have hp : pad (head16 (BitVec.ofInt 32 gen) b) = be4 (BitVec.ofInt 32 gen) ++ (be4 (BitVec.ofNat 32 b.length) ++ (be4 (crc b) ++ (be4 (crc (head12 (BitVec.ofInt 32 gen) b)) ++ List.replicate 48 0))) := by
    unfold pad; rw [head16_length]; simp [head16, head12]
  rw [hp, get4_be4]
  exact hne
end Go.Ax

/- What the regions of some functions hand on. Printed by a program of mine (gen.py). -/
set_option linter.unusedVariables false
namespace Go.Ax
open Go Go.Proofs
/-! ### interregnum/interregnumref01.Same -/
noncomputable def O22 (i : Nat) : Array Oper := opsOf i (bodyOf Try.f22)
noncomputable def B22_1 : Code := (.seq (.seq (.region 4 (O22 4) false) (.cond (Go.Operand.tmp 14) .skip (.exit 0))) (.seq (.block 1 (.seq (.region 6 (O22 6) true) (.cond (Go.Operand.tmp 25) (.seq (.region 7 (O22 7) false) .ret) .skip))) (.region 5 (O22 5) false)))
theorem s22 : bodyOf Try.f22 = (.seq (.region 0 (O22 0) false) (.seq (.seq (.region 1 (O22 1) false) (.cond (Go.Operand.tmp 10) (.seq (.region 2 (O22 2) false) .ret) .skip)) (.seq (.seq (.region 3 (O22 3) false) (.block 0 (.loop B22_1))) (.seq (.region 8 (O22 8) false) .ret)))) := by kernel_rfl
theorem e22 : E0 22 = some ⟨26, [4], bodyOf Try.f22⟩ := by kernel_rfl
theorem r22_0 {β : Type} (call : CallF) (md : Bool) (n : Nat) (k : Ex → List AV → Heap → Option β) (x0 x1 : AV) (h : Heap) :
    runK C0 call md 22 n (.region 0 (O22 0) false) k (st 26 [(0, x0), (1, x1)]) h =
    k .normal (st 26 [(0, x0), (1, x1)]) h
  := by kernel_rfl
theorem r22_1 {β : Type} (call : CallF) (md : Bool) (n : Nat) (k : Ex → List AV → Heap → Option β) (x0 x1 : AV) (h : Heap) :
    runK C0 call md 22 n (.region 1 (O22 1) false) k (st 26 [(0, x0), (1, x1)]) h =
    bnd (aLen tab 22 x0) fun v1 =>
    bnd (aLen tab 22 x1) fun v2 =>
    bnd (aBinC tab .neq 3 v1 v2 false) fun v3 =>
    k .normal (st 26 [(0, x0), (1, x1), (10, v3)]) h
  := by kernel_rfl
theorem r22_2 {β : Type} (call : CallF) (md : Bool) (n : Nat) (k : Ex → List AV → Heap → Option β) (x0 x1 x10 : AV) (h : Heap) :
    runK C0 call md 22 n (.region 2 (O22 2) false) k (st 26 [(0, x0), (1, x1), (10, x10)]) h =
    k .normal (st 26 [(4, (.bool false))]) h
  := by kernel_rfl
theorem r22_3 {β : Type} (call : CallF) (md : Bool) (n : Nat) (k : Ex → List AV → Heap → Option β) (x0 x1 x10 : AV) (h : Heap) :
    runK C0 call md 22 n (.region 3 (O22 3) false) k (st 26 [(0, x0), (1, x1), (10, x10)]) h =
    k .normal (st 26 [(0, x0), (1, x1), (5, (.int .i64 0))]) h
  := by kernel_rfl
theorem r22_4 {β : Type} (call : CallF) (md : Bool) (n : Nat) (k : Ex → List AV → Heap → Option β) (x0 x1 x5 : AV) (h : Heap) :
    runK C0 call md 22 n (.region 4 (O22 4) false) k (st 26 [(0, x0), (1, x1), (5, x5)]) h =
    bnd (aLen tab 22 x0) fun v1 =>
    bnd (aBinC tab .lss 3 x5 v1 false) fun v2 =>
    k .normal (st 26 [(0, x0), (1, x1), (5, x5), (14, v2)]) h
  := by kernel_rfl
theorem r22_5 {β : Type} (call : CallF) (md : Bool) (n : Nat) (k : Ex → List AV → Heap → Option β) (x0 x1 x5 x25 : AV) (h : Heap) :
    runK C0 call md 22 n (.region 5 (O22 5) false) k (st 26 [(0, x0), (1, x1), (5, x5), (25, x25)]) h =
    bnd (aBinC tab .add 3 x5 (.int .i64 1) true) fun v1 =>
    k .normal (st 26 [(0, x0), (1, x1), (5, v1)]) h
  := by kernel_rfl
theorem r22_6 {β : Type} (call : CallF) (md : Bool) (n : Nat) (k : Ex → List AV → Heap → Option β) (x0 x1 x5 x14 : AV) (h : Heap) :
    runK C0 call md 22 n (.region 6 (O22 6) true) k (st 26 [(0, x0), (1, x1), (5, x5), (14, x14)]) h =
    bnd (aIndexAddr tab 22 x0 x5) fun v1 =>
    bnd (aLoad tab 5 v1 h) fun v2 =>
    bnd (aIndexAddr tab 22 x1 x5) fun v3 =>
    bnd (aLoad tab 5 v3 h) fun v4 =>
    bnd (aBinC tab .neq 5 v2 v4 false) fun v5 =>
    k .normal (st 26 [(0, x0), (1, x1), (5, x5), (25, v5)]) h
  := by kernel_rfl
theorem r22_7 {β : Type} (call : CallF) (md : Bool) (n : Nat) (k : Ex → List AV → Heap → Option β) (x0 x1 x5 x25 : AV) (h : Heap) :
    runK C0 call md 22 n (.region 7 (O22 7) false) k (st 26 [(0, x0), (1, x1), (5, x5), (25, x25)]) h =
    k .normal (st 26 [(4, (.bool false))]) h
  := by kernel_rfl
theorem r22_8 {β : Type} (call : CallF) (md : Bool) (n : Nat) (k : Ex → List AV → Heap → Option β) (x0 x1 x5 x14 : AV) (h : Heap) :
    runK C0 call md 22 n (.region 8 (O22 8) false) k (st 26 [(0, x0), (1, x1), (5, x5), (14, x14)]) h =
    k .normal (st 26 [(4, (.bool true))]) h
  := by kernel_rfl
end Go.Ax

/- What the regions of some functions hand on. Printed by a program of mine (gen.py). -/
set_option linter.unusedVariables false
namespace Go.Ax
open Go Go.Proofs
/-! ### interregnum/interregnumref01.Rows -/
noncomputable def O16 (i : Nat) : Array Oper := opsOf i (bodyOf Try.f16)
noncomputable def B16_1 : Code := (.seq (.seq (.region 4 (O16 4) false) (.cond (Go.Operand.tmp 14) .skip (.exit 0))) (.seq (.block 1 (.seq (.region 6 (O16 6) true) (.cond (Go.Operand.tmp 26) (.seq (.region 7 (O16 7) false) .ret) .skip))) (.region 5 (O16 5) false)))
theorem s16 : bodyOf Try.f16 = (.seq (.region 0 (O16 0) false) (.seq (.seq (.region 1 (O16 1) false) (.cond (Go.Operand.tmp 10) (.seq (.region 2 (O16 2) false) .ret) .skip)) (.seq (.seq (.region 3 (O16 3) false) (.block 0 (.loop B16_1))) (.seq (.region 8 (O16 8) false) .ret)))) := by kernel_rfl
theorem e16 : E0 16 = some ⟨27, [4], bodyOf Try.f16⟩ := by kernel_rfl
theorem r16_0 {β : Type} (call : CallF) (md : Bool) (n : Nat) (k : Ex → List AV → Heap → Option β) (x0 x1 : AV) (h : Heap) :
    runK C0 call md 16 n (.region 0 (O16 0) false) k (st 27 [(0, x0), (1, x1)]) h =
    k .normal (st 27 [(0, x0), (1, x1)]) h
  := by kernel_rfl
theorem r16_1 {β : Type} (call : CallF) (md : Bool) (n : Nat) (k : Ex → List AV → Heap → Option β) (x0 x1 : AV) (h : Heap) :
    runK C0 call md 16 n (.region 1 (O16 1) false) k (st 27 [(0, x0), (1, x1)]) h =
    bnd (aLen tab 30 x0) fun v1 =>
    bnd (aLen tab 30 x1) fun v2 =>
    bnd (aBinC tab .neq 3 v1 v2 false) fun v3 =>
    k .normal (st 27 [(0, x0), (1, x1), (10, v3)]) h
  := by kernel_rfl
theorem r16_2 {β : Type} (call : CallF) (md : Bool) (n : Nat) (k : Ex → List AV → Heap → Option β) (x0 x1 x10 : AV) (h : Heap) :
    runK C0 call md 16 n (.region 2 (O16 2) false) k (st 27 [(0, x0), (1, x1), (10, x10)]) h =
    k .normal (st 27 [(4, (.bool false))]) h
  := by kernel_rfl
theorem r16_3 {β : Type} (call : CallF) (md : Bool) (n : Nat) (k : Ex → List AV → Heap → Option β) (x0 x1 x10 : AV) (h : Heap) :
    runK C0 call md 16 n (.region 3 (O16 3) false) k (st 27 [(0, x0), (1, x1), (10, x10)]) h =
    k .normal (st 27 [(0, x0), (1, x1), (5, (.int .i64 0))]) h
  := by kernel_rfl
theorem r16_4 {β : Type} (call : CallF) (md : Bool) (n : Nat) (k : Ex → List AV → Heap → Option β) (x0 x1 x5 : AV) (h : Heap) :
    runK C0 call md 16 n (.region 4 (O16 4) false) k (st 27 [(0, x0), (1, x1), (5, x5)]) h =
    bnd (aLen tab 30 x0) fun v1 =>
    bnd (aBinC tab .lss 3 x5 v1 false) fun v2 =>
    k .normal (st 27 [(0, x0), (1, x1), (5, x5), (14, v2)]) h
  := by kernel_rfl
theorem r16_5 {β : Type} (call : CallF) (md : Bool) (n : Nat) (k : Ex → List AV → Heap → Option β) (x0 x1 x5 x26 : AV) (h : Heap) :
    runK C0 call md 16 n (.region 5 (O16 5) false) k (st 27 [(0, x0), (1, x1), (5, x5), (26, x26)]) h =
    bnd (aBinC tab .add 3 x5 (.int .i64 1) true) fun v1 =>
    k .normal (st 27 [(0, x0), (1, x1), (5, v1)]) h
  := by kernel_rfl
theorem r16_6 {β : Type} (call : CallF) (md : Bool) (n : Nat) (k : Ex → List AV → Heap → Option β) (x0 x1 x5 x14 : AV) (h : Heap) :
    runK C0 call md 16 n (.region 6 (O16 6) true) k (st 27 [(0, x0), (1, x1), (5, x5), (14, x14)]) h =
    bnd (aIndexAddr tab 30 x0 x5) fun v1 =>
    bnd (aLoad tab 22 v1 h) fun v2 =>
    bnd (aIndexAddr tab 30 x1 x5) fun v3 =>
    bnd (aLoad tab 22 v3 h) fun v4 =>
    bnd2 (aCall call md (.fn (.func 22) []) [v2, v4] h) fun v5 h6 =>
    bnd (aUn .not v5) fun v7 =>
    k .normal (st 27 [(0, x0), (1, x1), (5, x5), (26, v7)]) h6
  := by kernel_rfl
theorem r16_7 {β : Type} (call : CallF) (md : Bool) (n : Nat) (k : Ex → List AV → Heap → Option β) (x0 x1 x5 x26 : AV) (h : Heap) :
    runK C0 call md 16 n (.region 7 (O16 7) false) k (st 27 [(0, x0), (1, x1), (5, x5), (26, x26)]) h =
    k .normal (st 27 [(4, (.bool false))]) h
  := by kernel_rfl
theorem r16_8 {β : Type} (call : CallF) (md : Bool) (n : Nat) (k : Ex → List AV → Heap → Option β) (x0 x1 x5 x14 : AV) (h : Heap) :
    runK C0 call md 16 n (.region 8 (O16 8) false) k (st 27 [(0, x0), (1, x1), (5, x5), (14, x14)]) h =
    k .normal (st 27 [(4, (.bool true))]) h
  := by kernel_rfl
end Go.Ax

/- The reference's Same and Rows: what they compute. -/
namespace Go.Ax
open Go Go.Proofs

theorem u8_neq (T : Tab) (t : Ty) (a b : UInt8) (c : Bool) : aBinC T .neq t (U8 a) (U8 b) c = some (.bool (decide (a ≠ b))) := by
  simp only [U8, bin_neq, ne_eq, Int.natCast_inj, UInt8.toNat_inj]

theorem drop_get {α : Type} {l : List α} {i : Nat} {a : α} (h : l[i]? = some a) : l.drop i = a :: l.drop (i + 1) := by
  obtain ⟨hl, rfl⟩ := List.getElem?_eq_some_iff.1 h
  exact List.drop_eq_getElem_cons hl

theorem same_loop {x y : AV} {l m : List UInt8} (hx : Bs x l) (hy : Bs y m) (hlm : l.length = m.length) (hl : l.length < 2 ^ 62) (call : CallF) (md : Bool) (N : Nat) (h : Heap) (K : Ex → List AV → Heap → Option (AV × Heap)) :
    ∀ (c i n : Nat), i + c = l.length → c < n →
    loopK (fun next => runK C0 call md 22 N B22_1 (seqE next K)) n (st 26 [(0, x), (1, y), (5, .int .i64 i)]) h =
      if l.drop i = m.drop i then K (.exit 0) (st 26 [(0, x), (1, y), (5, .int .i64 l.length), (14, .bool false)]) h else K .ret (st 26 [(4, .bool false)]) h := by
  intro c
  induction c with
  | zero =>
    intro i n hi hn
    obtain ⟨n, rfl⟩ : ∃ j, n = j + 1 := ⟨n - 1, by omega⟩
    obtain rfl : i = l.length := by omega
    rw [if_pos (by rw [List.drop_length, hlm, List.drop_length]), loopK_succ]
    generalize loopK (_ : (List AV → Heap → Option (AV × Heap)) → List AV → Heap → Option (AV × Heap)) n = Lp
    have e : decide (((l.length : Nat) : Int) < (l.length : Nat)) = false := decide_eq_false (by omega)
    simp -implicitDefEqProofs only [B22_1, ↓runK_seq, runK_seq, ↓runK_cond, runK_cond, ↓runK_block, runK_block, ↓runK_loop, runK_loop, ↓runK_skip, runK_skip, ↓runK_ret, runK_ret, ↓runK_exit, runK_exit, ↓seqE_n, seqE_n, ↓seqE_e, seqE_e, ↓seqE_r, seqE_r, ↓blkE_n, blkE_n, ↓blkE_e, blkE_e, ↓blkE_r, blkE_r, ↓retK_n, retK_n, ↓retK_r, retK_r, ↓aCall_fn, aCall_fn, ↓bnd_s, bnd_s, ↓bnd2_s, bnd2_s, ↓onB_t, onB_t, ↓onB_f, onB_f, ↓onG_tt, onG_tt, ↓onG_tf, onG_tf, ↓onG_ft, onG_ft, ↓onG_ff, onG_ff, ↓onG_s, onG_s, ↓onT_t, onT_t, ↓aPick_t, aPick_t, ↓aPick_f, aPick_f, decide_true, decide_false, st_tmp, results1, results2, List.lookup_cons, List.lookup_nil, Nat.reduceBEq, Bool.false_eq_true, ↓reduceIte, BEq.rfl, Nat.reduceLT, Option.getD_some, Option.getD_none, ↓r22_0, r22_0, ↓r22_1, r22_1, ↓r22_2, r22_2, ↓r22_3, r22_3, ↓r22_4, r22_4, ↓r22_5, r22_5, ↓r22_6, r22_6, ↓r22_7, r22_7, ↓r22_8, r22_8, hx.len, bin_lss, e]
  | succ c ih =>
    intro i n hi hn
    obtain ⟨n, rfl⟩ : ∃ j, n = j + 1 := ⟨n - 1, by omega⟩
    have e : decide (((i : Nat) : Int) < (l.length : Nat)) = true := decide_eq_true (by omega)
    have wr : IntKind.i64.wrap ((i : Int) + 1) = ((i + 1 : Nat) : Int) := by rw [wrap_i64] <;> omega
    obtain ⟨a, ha⟩ : ∃ a, l[i]? = some a := ⟨l[i]'(by omega), List.getElem?_eq_getElem _⟩
    obtain ⟨b, hb⟩ : ∃ b, m[i]? = some b := ⟨m[i]'(by omega), List.getElem?_eq_getElem _⟩
    have ih' := ih (i + 1) n (by omega) (by omega)
    rw [drop_get ha, drop_get hb, loopK_succ]
    generalize loopK (_ : (List AV → Heap → Option (AV × Heap)) → List AV → Heap → Option (AV × Heap)) n = Lp at *
    by_cases hab : a = b
    · have e1 : decide (a ≠ b) = false := decide_eq_false fun h => h hab
      simp only [hab, List.cons.injEq, true_and]
      rw [← ih']
      simp -implicitDefEqProofs only [B22_1, ↓runK_seq, runK_seq, ↓runK_cond, runK_cond, ↓runK_block, runK_block, ↓runK_loop, runK_loop, ↓runK_skip, runK_skip, ↓runK_ret, runK_ret, ↓runK_exit, runK_exit, ↓seqE_n, seqE_n, ↓seqE_e, seqE_e, ↓seqE_r, seqE_r, ↓blkE_n, blkE_n, ↓blkE_e, blkE_e, ↓blkE_r, blkE_r, ↓retK_n, retK_n, ↓retK_r, retK_r, ↓aCall_fn, aCall_fn, ↓bnd_s, bnd_s, ↓bnd2_s, bnd2_s, ↓onB_t, onB_t, ↓onB_f, onB_f, ↓onG_tt, onG_tt, ↓onG_tf, onG_tf, ↓onG_ft, onG_ft, ↓onG_ff, onG_ff, ↓onG_s, onG_s, ↓onT_t, onT_t, ↓aPick_t, aPick_t, ↓aPick_f, aPick_f, decide_true, decide_false, st_tmp, results1, results2, List.lookup_cons, List.lookup_nil, Nat.reduceBEq, Bool.false_eq_true, ↓reduceIte, BEq.rfl, Nat.reduceLT, Option.getD_some, Option.getD_none, ↓r22_0, r22_0, ↓r22_1, r22_1, ↓r22_2, r22_2, ↓r22_3, r22_3, ↓r22_4, r22_4, ↓r22_5, r22_5, ↓r22_6, r22_6, ↓r22_7, r22_7, ↓r22_8, r22_8, hx.len, bin_lss, e, hx.idx ha, hy.idx hb, load5, u8_neq, e1, bin_add, wr]
    · have e1 : decide (a ≠ b) = true := decide_eq_true hab
      rw [if_neg (by simp [hab])]
      simp -implicitDefEqProofs only [B22_1, ↓runK_seq, runK_seq, ↓runK_cond, runK_cond, ↓runK_block, runK_block, ↓runK_loop, runK_loop, ↓runK_skip, runK_skip, ↓runK_ret, runK_ret, ↓runK_exit, runK_exit, ↓seqE_n, seqE_n, ↓seqE_e, seqE_e, ↓seqE_r, seqE_r, ↓blkE_n, blkE_n, ↓blkE_e, blkE_e, ↓blkE_r, blkE_r, ↓retK_n, retK_n, ↓retK_r, retK_r, ↓aCall_fn, aCall_fn, ↓bnd_s, bnd_s, ↓bnd2_s, bnd2_s, ↓onB_t, onB_t, ↓onB_f, onB_f, ↓onG_tt, onG_tt, ↓onG_tf, onG_tf, ↓onG_ft, onG_ft, ↓onG_ff, onG_ff, ↓onG_s, onG_s, ↓onT_t, onT_t, ↓aPick_t, aPick_t, ↓aPick_f, aPick_f, decide_true, decide_false, st_tmp, results1, results2, List.lookup_cons, List.lookup_nil, Nat.reduceBEq, Bool.false_eq_true, ↓reduceIte, BEq.rfl, Nat.reduceLT, Option.getD_some, Option.getD_none, ↓r22_0, r22_0, ↓r22_1, r22_1, ↓r22_2, r22_2, ↓r22_3, r22_3, ↓r22_4, r22_4, ↓r22_5, r22_5, ↓r22_6, r22_6, ↓r22_7, r22_7, ↓r22_8, r22_8, hx.len, bin_lss, e, hx.idx ha, hy.idx hb, load5, u8_neq, e1]

theorem same_ok {x y : AV} {l m : List UInt8} (hx : Bs x l) (hy : Bs y m) (hl : l.length < 2 ^ 62) (md : Bool) (h : Heap) (k : Nat) (hk : l.length + 1 < k) : exFn C0 E0 k md 22 [x, y] h = some (.bool (decide (l = m)), h) := by
  obtain ⟨k, rfl⟩ : ∃ j, k = j + 1 := ⟨k - 1, by omega⟩
  have n0 : ([x, y] ++ List.replicate (26 - [x, y].length) AV.undef) = st 26 [(0, x), (1, y)] := rfl
  refine exFn_of e22 ?_
  rw [fnK, n0, s22]
  by_cases hlm : l.length = m.length
  · have e : decide (((l.length : Nat) : Int) ≠ (m.length : Nat)) = false := decide_eq_false (by omega)
    simp -implicitDefEqProofs only [↓runK_seq, runK_seq, ↓runK_cond, runK_cond, ↓runK_block, runK_block, ↓runK_loop, runK_loop, ↓runK_skip, runK_skip, ↓runK_ret, runK_ret, ↓runK_exit, runK_exit, ↓seqE_n, seqE_n, ↓seqE_e, seqE_e, ↓seqE_r, seqE_r, ↓blkE_n, blkE_n, ↓blkE_e, blkE_e, ↓blkE_r, blkE_r, ↓retK_n, retK_n, ↓retK_r, retK_r, ↓aCall_fn, aCall_fn, ↓bnd_s, bnd_s, ↓bnd2_s, bnd2_s, ↓onB_t, onB_t, ↓onB_f, onB_f, ↓onG_tt, onG_tt, ↓onG_tf, onG_tf, ↓onG_ft, onG_ft, ↓onG_ff, onG_ff, ↓onG_s, onG_s, ↓onT_t, onT_t, ↓aPick_t, aPick_t, ↓aPick_f, aPick_f, decide_true, decide_false, st_tmp, results1, results2, List.lookup_cons, List.lookup_nil, Nat.reduceBEq, Bool.false_eq_true, ↓reduceIte, BEq.rfl, Nat.reduceLT, Option.getD_some, Option.getD_none, ↓r22_0, r22_0, ↓r22_1, r22_1, ↓r22_2, r22_2, ↓r22_3, r22_3, ↓r22_4, r22_4, ↓r22_5, r22_5, ↓r22_6, r22_6, ↓r22_7, r22_7, ↓r22_8, r22_8, hx.len, hy.len, bin_neq, e]
    rw [show AV.int .i64 0 = .int .i64 ((0 : Nat) : Int) from rfl, same_loop hx hy hlm hl _ md k h _ l.length 0 k (by omega) (by omega), List.drop_zero, List.drop_zero]
    by_cases h2 : l = m
    · rw [if_pos h2, decide_eq_true h2]
      simp -implicitDefEqProofs only [↓runK_seq, runK_seq, ↓runK_cond, runK_cond, ↓runK_block, runK_block, ↓runK_loop, runK_loop, ↓runK_skip, runK_skip, ↓runK_ret, runK_ret, ↓runK_exit, runK_exit, ↓seqE_n, seqE_n, ↓seqE_e, seqE_e, ↓seqE_r, seqE_r, ↓blkE_n, blkE_n, ↓blkE_e, blkE_e, ↓blkE_r, blkE_r, ↓retK_n, retK_n, ↓retK_r, retK_r, ↓aCall_fn, aCall_fn, ↓bnd_s, bnd_s, ↓bnd2_s, bnd2_s, ↓onB_t, onB_t, ↓onB_f, onB_f, ↓onG_tt, onG_tt, ↓onG_tf, onG_tf, ↓onG_ft, onG_ft, ↓onG_ff, onG_ff, ↓onG_s, onG_s, ↓onT_t, onT_t, ↓aPick_t, aPick_t, ↓aPick_f, aPick_f, decide_true, decide_false, st_tmp, results1, results2, List.lookup_cons, List.lookup_nil, Nat.reduceBEq, Bool.false_eq_true, ↓reduceIte, BEq.rfl, Nat.reduceLT, Option.getD_some, Option.getD_none, ↓r22_0, r22_0, ↓r22_1, r22_1, ↓r22_2, r22_2, ↓r22_3, r22_3, ↓r22_4, r22_4, ↓r22_5, r22_5, ↓r22_6, r22_6, ↓r22_7, r22_7, ↓r22_8, r22_8]
    · rw [if_neg h2, decide_eq_false h2]
      simp -implicitDefEqProofs only [↓runK_seq, runK_seq, ↓runK_cond, runK_cond, ↓runK_block, runK_block, ↓runK_loop, runK_loop, ↓runK_skip, runK_skip, ↓runK_ret, runK_ret, ↓runK_exit, runK_exit, ↓seqE_n, seqE_n, ↓seqE_e, seqE_e, ↓seqE_r, seqE_r, ↓blkE_n, blkE_n, ↓blkE_e, blkE_e, ↓blkE_r, blkE_r, ↓retK_n, retK_n, ↓retK_r, retK_r, ↓aCall_fn, aCall_fn, ↓bnd_s, bnd_s, ↓bnd2_s, bnd2_s, ↓onB_t, onB_t, ↓onB_f, onB_f, ↓onG_tt, onG_tt, ↓onG_tf, onG_tf, ↓onG_ft, onG_ft, ↓onG_ff, onG_ff, ↓onG_s, onG_s, ↓onT_t, onT_t, ↓aPick_t, aPick_t, ↓aPick_f, aPick_f, decide_true, decide_false, st_tmp, results1, results2, List.lookup_cons, List.lookup_nil, Nat.reduceBEq, Bool.false_eq_true, ↓reduceIte, BEq.rfl, Nat.reduceLT, Option.getD_some, Option.getD_none, ↓r22_0, r22_0, ↓r22_1, r22_1, ↓r22_2, r22_2, ↓r22_3, r22_3, ↓r22_4, r22_4, ↓r22_5, r22_5, ↓r22_6, r22_6, ↓r22_7, r22_7, ↓r22_8, r22_8]
  · have e : decide (((l.length : Nat) : Int) ≠ (m.length : Nat)) = true := decide_eq_true (by omega)
    rw [decide_eq_false (show ¬ l = m from fun e => hlm (by rw [e]))]
    simp -implicitDefEqProofs only [↓runK_seq, runK_seq, ↓runK_cond, runK_cond, ↓runK_block, runK_block, ↓runK_loop, runK_loop, ↓runK_skip, runK_skip, ↓runK_ret, runK_ret, ↓runK_exit, runK_exit, ↓seqE_n, seqE_n, ↓seqE_e, seqE_e, ↓seqE_r, seqE_r, ↓blkE_n, blkE_n, ↓blkE_e, blkE_e, ↓blkE_r, blkE_r, ↓retK_n, retK_n, ↓retK_r, retK_r, ↓aCall_fn, aCall_fn, ↓bnd_s, bnd_s, ↓bnd2_s, bnd2_s, ↓onB_t, onB_t, ↓onB_f, onB_f, ↓onG_tt, onG_tt, ↓onG_tf, onG_tf, ↓onG_ft, onG_ft, ↓onG_ff, onG_ff, ↓onG_s, onG_s, ↓onT_t, onT_t, ↓aPick_t, aPick_t, ↓aPick_f, aPick_f, decide_true, decide_false, st_tmp, results1, results2, List.lookup_cons, List.lookup_nil, Nat.reduceBEq, Bool.false_eq_true, ↓reduceIte, BEq.rfl, Nat.reduceLT, Option.getD_some, Option.getD_none, ↓r22_0, r22_0, ↓r22_1, r22_1, ↓r22_2, r22_2, ↓r22_3, r22_3, ↓r22_4, r22_4, ↓r22_5, r22_5, ↓r22_6, r22_6, ↓r22_7, r22_7, ↓r22_8, r22_8, hx.len, hy.len, bin_neq, e]

/-- A slice of byte slices. -/
def Rw (x : AV) (ls : List (List UInt8)) : Prop := (x = .nils ∧ ls = []) ∨ ∃ vs k, x = .vsl 22 vs k ∧ BsL vs ls
theorem ApR.rw {S : Obs} {h : Heap} {x : AV} {ls : List (List UInt8)} (a : ApR S h x ls) : Rw x ls := by
  obtain ⟨vs, ⟨rfl, rfl⟩ | ⟨k, rfl, -⟩, hf⟩ := a
  · cases hf; exact .inl ⟨rfl, rfl⟩
  · exact .inr ⟨vs, k, rfl, hf⟩
theorem Rw.len {x : AV} {ls : List (List UInt8)} (hx : Rw x ls) : aLen tab 30 x = some (.int .i64 ls.length) := by
  rcases hx with ⟨rfl, rfl⟩ | ⟨vs, k, rfl, hf⟩
  · exact len_nils30
  · rw [len30, hf.length]
theorem BsL.get : ∀ {vs : List AV} {ls : List (List UInt8)}, BsL vs ls → ∀ {i : Nat} {l : List UInt8}, ls[i]? = some l → ∃ v, vs[i]? = some v ∧ Bs v l
  | _, _, .nil, i, l, h => by simp at h
  | _, _, .cons a t, 0, l, h => by simp at h; subst h; exact ⟨_, rfl, a⟩
  | _, _, .cons a t, i + 1, l, h => by simpa using t.get (i := i) (by simpa using h)
theorem Rw.idx {x : AV} {ls : List (List UInt8)} (hx : Rw x ls) {i : Nat} {l : List UInt8} (hi : ls[i]? = some l) : ∃ v, aIndexAddr tab 30 x (.int .i64 i) = some (.vptr 22 v) ∧ Bs v l := by
  rcases hx with ⟨rfl, rfl⟩ | ⟨vs, k, rfl, hf⟩
  · simp at hi
  · obtain ⟨v, hv, hb⟩ := hf.get hi
    exact ⟨v, by rw [idx30, hv]; rfl, hb⟩

theorem rows_loop {x y : AV} {l m : List (List UInt8)} (hx : Rw x l) (hy : Rw y m) (hlm : l.length = m.length) (hl : l.length < 2 ^ 62) (B : Nat) (hB : ∀ b ∈ l, b.length < B) (hB2 : B < 2 ^ 62) (N : Nat) (hN : B + 1 < N) (md : Bool) (h : Heap) (K : Ex → List AV → Heap → Option (AV × Heap)) :
    ∀ (c i n : Nat), i + c = l.length → c < n →
    loopK (fun next => runK C0 (exFn C0 E0 N) md 16 N B16_1 (seqE next K)) n (st 27 [(0, x), (1, y), (5, .int .i64 i)]) h =
      if l.drop i = m.drop i then K (.exit 0) (st 27 [(0, x), (1, y), (5, .int .i64 l.length), (14, .bool false)]) h else K .ret (st 27 [(4, .bool false)]) h := by
  intro c
  induction c with
  | zero =>
    intro i n hi hn
    obtain ⟨n, rfl⟩ : ∃ j, n = j + 1 := ⟨n - 1, by omega⟩
    obtain rfl : i = l.length := by omega
    rw [if_pos (by rw [List.drop_length, hlm, List.drop_length]), loopK_succ]
    generalize loopK (_ : (List AV → Heap → Option (AV × Heap)) → List AV → Heap → Option (AV × Heap)) n = Lp
    have e : decide (((l.length : Nat) : Int) < (l.length : Nat)) = false := decide_eq_false (by omega)
    simp -implicitDefEqProofs only [B16_1, ↓runK_seq, runK_seq, ↓runK_cond, runK_cond, ↓runK_block, runK_block, ↓runK_loop, runK_loop, ↓runK_skip, runK_skip, ↓runK_ret, runK_ret, ↓runK_exit, runK_exit, ↓seqE_n, seqE_n, ↓seqE_e, seqE_e, ↓seqE_r, seqE_r, ↓blkE_n, blkE_n, ↓blkE_e, blkE_e, ↓blkE_r, blkE_r, ↓retK_n, retK_n, ↓retK_r, retK_r, ↓aCall_fn, aCall_fn, ↓bnd_s, bnd_s, ↓bnd2_s, bnd2_s, ↓onB_t, onB_t, ↓onB_f, onB_f, ↓onG_tt, onG_tt, ↓onG_tf, onG_tf, ↓onG_ft, onG_ft, ↓onG_ff, onG_ff, ↓onG_s, onG_s, ↓onT_t, onT_t, ↓aPick_t, aPick_t, ↓aPick_f, aPick_f, decide_true, decide_false, st_tmp, results1, results2, List.lookup_cons, List.lookup_nil, Nat.reduceBEq, Bool.false_eq_true, ↓reduceIte, BEq.rfl, Nat.reduceLT, Option.getD_some, Option.getD_none, ↓r16_0, r16_0, ↓r16_1, r16_1, ↓r16_2, r16_2, ↓r16_3, r16_3, ↓r16_4, r16_4, ↓r16_5, r16_5, ↓r16_6, r16_6, ↓r16_7, r16_7, ↓r16_8, r16_8, hx.len, bin_lss, e]
  | succ c ih =>
    intro i n hi hn
    obtain ⟨n, rfl⟩ : ∃ j, n = j + 1 := ⟨n - 1, by omega⟩
    have e : decide (((i : Nat) : Int) < (l.length : Nat)) = true := decide_eq_true (by omega)
    have wr : IntKind.i64.wrap ((i : Int) + 1) = ((i + 1 : Nat) : Int) := by rw [wrap_i64] <;> omega
    obtain ⟨a, ha⟩ : ∃ a, l[i]? = some a := ⟨l[i]'(by omega), List.getElem?_eq_getElem _⟩
    obtain ⟨b, hb⟩ : ∃ b, m[i]? = some b := ⟨m[i]'(by omega), List.getElem?_eq_getElem _⟩
    obtain ⟨u, hu, bu⟩ := hx.idx ha
    obtain ⟨v, hv, bv⟩ := hy.idx hb
    have haB := hB a (List.mem_of_getElem? ha)
    have sm := same_ok bu bv (by omega) md h N (by omega)
    have ih' := ih (i + 1) n (by omega) (by omega)
    rw [drop_get ha, drop_get hb, loopK_succ]
    generalize loopK (_ : (List AV → Heap → Option (AV × Heap)) → List AV → Heap → Option (AV × Heap)) n = Lp at *
    by_cases hab : a = b
    · have e1 : decide (a = b) = true := decide_eq_true hab
      rw [e1] at sm
      simp only [hab, List.cons.injEq, true_and]
      rw [← ih']
      simp -implicitDefEqProofs only [B16_1, ↓runK_seq, runK_seq, ↓runK_cond, runK_cond, ↓runK_block, runK_block, ↓runK_loop, runK_loop, ↓runK_skip, runK_skip, ↓runK_ret, runK_ret, ↓runK_exit, runK_exit, ↓seqE_n, seqE_n, ↓seqE_e, seqE_e, ↓seqE_r, seqE_r, ↓blkE_n, blkE_n, ↓blkE_e, blkE_e, ↓blkE_r, blkE_r, ↓retK_n, retK_n, ↓retK_r, retK_r, ↓aCall_fn, aCall_fn, ↓bnd_s, bnd_s, ↓bnd2_s, bnd2_s, ↓onB_t, onB_t, ↓onB_f, onB_f, ↓onG_tt, onG_tt, ↓onG_tf, onG_tf, ↓onG_ft, onG_ft, ↓onG_ff, onG_ff, ↓onG_s, onG_s, ↓onT_t, onT_t, ↓aPick_t, aPick_t, ↓aPick_f, aPick_f, decide_true, decide_false, st_tmp, results1, results2, List.lookup_cons, List.lookup_nil, Nat.reduceBEq, Bool.false_eq_true, ↓reduceIte, BEq.rfl, Nat.reduceLT, Option.getD_some, Option.getD_none, ↓r16_0, r16_0, ↓r16_1, r16_1, ↓r16_2, r16_2, ↓r16_3, r16_3, ↓r16_4, r16_4, ↓r16_5, r16_5, ↓r16_6, r16_6, ↓r16_7, r16_7, ↓r16_8, r16_8, hx.len, bin_lss, e, hu, hv, load22, sm, un_not, Bool.not_true, bin_add, wr]
    · have e1 : decide (a = b) = false := decide_eq_false hab
      rw [e1] at sm
      rw [if_neg (by simp [hab])]
      simp -implicitDefEqProofs only [B16_1, ↓runK_seq, runK_seq, ↓runK_cond, runK_cond, ↓runK_block, runK_block, ↓runK_loop, runK_loop, ↓runK_skip, runK_skip, ↓runK_ret, runK_ret, ↓runK_exit, runK_exit, ↓seqE_n, seqE_n, ↓seqE_e, seqE_e, ↓seqE_r, seqE_r, ↓blkE_n, blkE_n, ↓blkE_e, blkE_e, ↓blkE_r, blkE_r, ↓retK_n, retK_n, ↓retK_r, retK_r, ↓aCall_fn, aCall_fn, ↓bnd_s, bnd_s, ↓bnd2_s, bnd2_s, ↓onB_t, onB_t, ↓onB_f, onB_f, ↓onG_tt, onG_tt, ↓onG_tf, onG_tf, ↓onG_ft, onG_ft, ↓onG_ff, onG_ff, ↓onG_s, onG_s, ↓onT_t, onT_t, ↓aPick_t, aPick_t, ↓aPick_f, aPick_f, decide_true, decide_false, st_tmp, results1, results2, List.lookup_cons, List.lookup_nil, Nat.reduceBEq, Bool.false_eq_true, ↓reduceIte, BEq.rfl, Nat.reduceLT, Option.getD_some, Option.getD_none, ↓r16_0, r16_0, ↓r16_1, r16_1, ↓r16_2, r16_2, ↓r16_3, r16_3, ↓r16_4, r16_4, ↓r16_5, r16_5, ↓r16_6, r16_6, ↓r16_7, r16_7, ↓r16_8, r16_8, hx.len, bin_lss, e, hu, hv, load22, sm, un_not, Bool.not_false]

theorem rows_ok {x y : AV} {l m : List (List UInt8)} (hx : Rw x l) (hy : Rw y m) (hl : l.length < 2 ^ 62) (B : Nat) (hB : ∀ b ∈ l, b.length < B) (hB2 : B < 2 ^ 62) (md : Bool) (h : Heap) (k : Nat) (hk : l.length + B + 3 < k) :
    exFn C0 E0 k md 16 [x, y] h = some (.bool (decide (l = m)), h) := by
  obtain ⟨k, rfl⟩ : ∃ j, k = j + 1 := ⟨k - 1, by omega⟩
  have n0 : ([x, y] ++ List.replicate (27 - [x, y].length) AV.undef) = st 27 [(0, x), (1, y)] := rfl
  refine exFn_of e16 ?_
  rw [fnK, n0, s16]
  by_cases hlm : l.length = m.length
  · have e : decide (((l.length : Nat) : Int) ≠ (m.length : Nat)) = false := decide_eq_false (by omega)
    simp -implicitDefEqProofs only [↓runK_seq, runK_seq, ↓runK_cond, runK_cond, ↓runK_block, runK_block, ↓runK_loop, runK_loop, ↓runK_skip, runK_skip, ↓runK_ret, runK_ret, ↓runK_exit, runK_exit, ↓seqE_n, seqE_n, ↓seqE_e, seqE_e, ↓seqE_r, seqE_r, ↓blkE_n, blkE_n, ↓blkE_e, blkE_e, ↓blkE_r, blkE_r, ↓retK_n, retK_n, ↓retK_r, retK_r, ↓aCall_fn, aCall_fn, ↓bnd_s, bnd_s, ↓bnd2_s, bnd2_s, ↓onB_t, onB_t, ↓onB_f, onB_f, ↓onG_tt, onG_tt, ↓onG_tf, onG_tf, ↓onG_ft, onG_ft, ↓onG_ff, onG_ff, ↓onG_s, onG_s, ↓onT_t, onT_t, ↓aPick_t, aPick_t, ↓aPick_f, aPick_f, decide_true, decide_false, st_tmp, results1, results2, List.lookup_cons, List.lookup_nil, Nat.reduceBEq, Bool.false_eq_true, ↓reduceIte, BEq.rfl, Nat.reduceLT, Option.getD_some, Option.getD_none, ↓r16_0, r16_0, ↓r16_1, r16_1, ↓r16_2, r16_2, ↓r16_3, r16_3, ↓r16_4, r16_4, ↓r16_5, r16_5, ↓r16_6, r16_6, ↓r16_7, r16_7, ↓r16_8, r16_8, hx.len, hy.len, bin_neq, e]
    rw [show AV.int .i64 0 = .int .i64 ((0 : Nat) : Int) from rfl, rows_loop hx hy hlm hl B hB hB2 k (by omega) md h _ l.length 0 k (by omega) (by omega), List.drop_zero, List.drop_zero]
    by_cases h2 : l = m
    · rw [if_pos h2, decide_eq_true h2]
      simp -implicitDefEqProofs only [↓runK_seq, runK_seq, ↓runK_cond, runK_cond, ↓runK_block, runK_block, ↓runK_loop, runK_loop, ↓runK_skip, runK_skip, ↓runK_ret, runK_ret, ↓runK_exit, runK_exit, ↓seqE_n, seqE_n, ↓seqE_e, seqE_e, ↓seqE_r, seqE_r, ↓blkE_n, blkE_n, ↓blkE_e, blkE_e, ↓blkE_r, blkE_r, ↓retK_n, retK_n, ↓retK_r, retK_r, ↓aCall_fn, aCall_fn, ↓bnd_s, bnd_s, ↓bnd2_s, bnd2_s, ↓onB_t, onB_t, ↓onB_f, onB_f, ↓onG_tt, onG_tt, ↓onG_tf, onG_tf, ↓onG_ft, onG_ft, ↓onG_ff, onG_ff, ↓onG_s, onG_s, ↓onT_t, onT_t, ↓aPick_t, aPick_t, ↓aPick_f, aPick_f, decide_true, decide_false, st_tmp, results1, results2, List.lookup_cons, List.lookup_nil, Nat.reduceBEq, Bool.false_eq_true, ↓reduceIte, BEq.rfl, Nat.reduceLT, Option.getD_some, Option.getD_none, ↓r16_0, r16_0, ↓r16_1, r16_1, ↓r16_2, r16_2, ↓r16_3, r16_3, ↓r16_4, r16_4, ↓r16_5, r16_5, ↓r16_6, r16_6, ↓r16_7, r16_7, ↓r16_8, r16_8]
    · rw [if_neg h2, decide_eq_false h2]
      simp -implicitDefEqProofs only [↓runK_seq, runK_seq, ↓runK_cond, runK_cond, ↓runK_block, runK_block, ↓runK_loop, runK_loop, ↓runK_skip, runK_skip, ↓runK_ret, runK_ret, ↓runK_exit, runK_exit, ↓seqE_n, seqE_n, ↓seqE_e, seqE_e, ↓seqE_r, seqE_r, ↓blkE_n, blkE_n, ↓blkE_e, blkE_e, ↓blkE_r, blkE_r, ↓retK_n, retK_n, ↓retK_r, retK_r, ↓aCall_fn, aCall_fn, ↓bnd_s, bnd_s, ↓bnd2_s, bnd2_s, ↓onB_t, onB_t, ↓onB_f, onB_f, ↓onG_tt, onG_tt, ↓onG_tf, onG_tf, ↓onG_ft, onG_ft, ↓onG_ff, onG_ff, ↓onG_s, onG_s, ↓onT_t, onT_t, ↓aPick_t, aPick_t, ↓aPick_f, aPick_f, decide_true, decide_false, st_tmp, results1, results2, List.lookup_cons, List.lookup_nil, Nat.reduceBEq, Bool.false_eq_true, ↓reduceIte, BEq.rfl, Nat.reduceLT, Option.getD_some, Option.getD_none, ↓r16_0, r16_0, ↓r16_1, r16_1, ↓r16_2, r16_2, ↓r16_3, r16_3, ↓r16_4, r16_4, ↓r16_5, r16_5, ↓r16_6, r16_6, ↓r16_7, r16_7, ↓r16_8, r16_8]
  · have e : decide (((l.length : Nat) : Int) ≠ (m.length : Nat)) = true := decide_eq_true (by omega)
    rw [decide_eq_false (show ¬ l = m from fun e => hlm (by rw [e]))]
    simp -implicitDefEqProofs only [↓runK_seq, runK_seq, ↓runK_cond, runK_cond, ↓runK_block, runK_block, ↓runK_loop, runK_loop, ↓runK_skip, runK_skip, ↓runK_ret, runK_ret, ↓runK_exit, runK_exit, ↓seqE_n, seqE_n, ↓seqE_e, seqE_e, ↓seqE_r, seqE_r, ↓blkE_n, blkE_n, ↓blkE_e, blkE_e, ↓blkE_r, blkE_r, ↓retK_n, retK_n, ↓retK_r, retK_r, ↓aCall_fn, aCall_fn, ↓bnd_s, bnd_s, ↓bnd2_s, bnd2_s, ↓onB_t, onB_t, ↓onB_f, onB_f, ↓onG_tt, onG_tt, ↓onG_tf, onG_tf, ↓onG_ft, onG_ft, ↓onG_ff, onG_ff, ↓onG_s, onG_s, ↓onT_t, onT_t, ↓aPick_t, aPick_t, ↓aPick_f, aPick_f, decide_true, decide_false, st_tmp, results1, results2, List.lookup_cons, List.lookup_nil, Nat.reduceBEq, Bool.false_eq_true, ↓reduceIte, BEq.rfl, Nat.reduceLT, Option.getD_some, Option.getD_none, ↓r16_0, r16_0, ↓r16_1, r16_1, ↓r16_2, r16_2, ↓r16_3, r16_3, ↓r16_4, r16_4, ↓r16_5, r16_5, ↓r16_6, r16_6, ↓r16_7, r16_7, ↓r16_8, r16_8, hx.len, hy.len, bin_neq, e]
end Go.Ax

/- What the regions of some functions hand on. Printed by a program of mine (gen.py). -/
set_option linter.unusedVariables false
namespace Go.Ax
open Go Go.Proofs
/-! ### (*interregnum/sector.Disk).Fuse -/
noncomputable def O24 (i : Nat) : Array Oper := opsOf i (bodyOf Try.f24)
theorem s24 : bodyOf Try.f24 = (.seq (.region 0 (O24 0) false) (.cond (Go.Operand.tmp 5) (.region 1 (O24 1) false) .skip)) := by kernel_rfl
theorem e24 : E0 24 = some ⟨11, [], bodyOf Try.f24⟩ := by kernel_rfl
theorem r24_0 {β : Type} (call : CallF) (md : Bool) (n : Nat) (k : Ex → List AV → Heap → Option β) (x0 x1 : AV) (h : Heap) :
    runK C0 call md 24 n (.region 0 (O24 0) false) k (st 11 [(0, x0), (1, x1)]) h =
    bnd (aBinC tab .neq 25 x0 .nilp true) fun v1 =>
    k .normal (st 11 [(0, x0), (1, x1), (5, v1)]) h
  := by kernel_rfl
theorem r24_1 {β : Type} (call : CallF) (md : Bool) (n : Nat) (k : Ex → List AV → Heap → Option β) (x0 x1 x5 : AV) (h : Heap) :
    runK C0 call md 24 n (.region 1 (O24 1) false) k (st 11 [(0, x0), (1, x1), (5, x5)]) h =
    bnd (aMax [x1, (.int .i64 0)]) fun v1 =>
    bnd (aNil x0) fun v2 =>
    bnd (aFieldAddr tab 84 v2 2) fun v3 =>
    bnd (aStore tab 3 v3 v1 h) fun h4 =>
    k .normal (st 11 []) h4
  := by kernel_rfl
end Go.Ax

/- What the regions of some functions hand on. Printed by a program of mine (gen.py). -/
set_option linter.unusedVariables false
namespace Go.Ax
open Go Go.Proofs
/-! ### (*interregnum/sector.Disk).Crash -/
noncomputable def O25 (i : Nat) : Array Oper := opsOf i (bodyOf Try.f25)
noncomputable def B25_1 : Code := (.seq (.region 2 (O25 2) false) (.seq (.cond (Go.Operand.tmp 19) .skip (.exit 0)) (.seq (.block 1 (.seq (.region 3 (O25 3) false) (.block 2 (.seq (.region 4 (O25 4) false) (.cond (Go.Operand.tmp 23) (.seq (.region 5 (O25 5) false) (.region 6 (O25 6) true)) (.seq (.region 7 (O25 7) false) (.cond (Go.Operand.tmp 43) (.region 8 (O25 8) true) .skip))))))) (.region 9 (O25 9) false))))
theorem s25 : bodyOf Try.f25 = (.seq (.seq (.region 0 (O25 0) false) (.cond (Go.Operand.tmp 12) .ret .skip)) (.seq (.seq (.region 1 (O25 1) false) (.block 0 (.loop B25_1))) (.region 10 (O25 10) false))) := by kernel_rfl
theorem e25 : E0 25 = some ⟨69, [], bodyOf Try.f25⟩ := by kernel_rfl
theorem r25_0 {β : Type} (call : CallF) (md : Bool) (n : Nat) (k : Ex → List AV → Heap → Option β) (x0 x1 x2 x3 : AV) (h : Heap) :
    runK C0 call md 25 n (.region 0 (O25 0) false) k (st 69 [(0, x0), (1, x1), (2, x2), (3, x3)]) h =
    bnd (aBinC tab .eql 25 x0 .nilp true) fun v1 =>
    k .normal (st 69 [(0, x0), (1, x1), (2, x2), (3, x3), (12, v1)]) h
  := by kernel_rfl
theorem r25_1 {β : Type} (call : CallF) (md : Bool) (n : Nat) (k : Ex → List AV → Heap → Option β) (x0 x1 x2 x3 x12 : AV) (h : Heap) :
    runK C0 call md 25 n (.region 1 (O25 1) false) k (st 69 [(0, x0), (1, x1), (2, x2), (3, x3), (12, x12)]) h =
    bnd (aNil x0) fun v1 =>
    bnd (aFieldAddr tab 84 v1 1) fun v2 =>
    bnd (aLoad tab 82 v2 h) fun v3 =>
    bnd (aLen tab 82 v3) fun v4 =>
    k .normal (st 69 [(0, x0), (1, x1), (2, x2), (3, x3), (16, v3), (17, v4), (18, (.int .i64 0))]) h
  := by kernel_rfl
theorem r25_2 {β : Type} (call : CallF) (md : Bool) (n : Nat) (k : Ex → List AV → Heap → Option β) (x0 x1 x2 x3 x16 x17 x18 : AV) (h : Heap) :
    runK C0 call md 25 n (.region 2 (O25 2) false) k (st 69 [(0, x0), (1, x1), (2, x2), (3, x3), (16, x16), (17, x17), (18, x18)]) h =
    bnd (aBinC tab .lss 3 x18 x17 false) fun v1 =>
    k .normal (st 69 [(0, x0), (1, x1), (2, x2), (3, x3), (16, x16), (17, x17), (18, x18), (19, v1)]) h
  := by kernel_rfl
theorem r25_3 {β : Type} (call : CallF) (md : Bool) (n : Nat) (k : Ex → List AV → Heap → Option β) (x0 x1 x2 x3 x16 x17 x18 x19 : AV) (h : Heap) :
    runK C0 call md 25 n (.region 3 (O25 3) false) k (st 69 [(0, x0), (1, x1), (2, x2), (3, x3), (16, x16), (17, x17), (18, x18), (19, x19)]) h =
    bnd (aIndexAddr tab 82 x16 x18) fun v1 =>
    bnd (aLoad tab 91 v1 h) fun v2 =>
    bnd2 (aAlloc tab 91 h) fun v3 h4 =>
    bnd (aStore tab 91 v3 v2 h4) fun h5 =>
    k .normal (st 69 [(0, x0), (1, x1), (2, x2), (3, x3), (8, x18), (9, v3), (16, x16), (17, x17), (18, x18)]) h5
  := by kernel_rfl
theorem r25_4 {β : Type} (call : CallF) (md : Bool) (n : Nat) (k : Ex → List AV → Heap → Option β) (x0 x1 x2 x3 x8 x9 x16 x17 x18 : AV) (h : Heap) :
    runK C0 call md 25 n (.region 4 (O25 4) false) k (st 69 [(0, x0), (1, x1), (2, x2), (3, x3), (8, x8), (9, x9), (16, x16), (17, x17), (18, x18)]) h =
    bnd (aBinC tab .eql 3 x8 x2 false) fun v1 =>
    k .normal (st 69 [(0, x0), (1, x1), (2, x2), (3, x3), (8, x8), (9, x9), (16, x16), (17, x17), (18, x18), (23, v1)]) h
  := by kernel_rfl
theorem r25_5 {β : Type} (call : CallF) (md : Bool) (n : Nat) (k : Ex → List AV → Heap → Option β) (x0 x1 x2 x3 x8 x9 x16 x17 x18 x23 : AV) (h : Heap) :
    runK C0 call md 25 n (.region 5 (O25 5) false) k (st 69 [(0, x0), (1, x1), (2, x2), (3, x3), (8, x8), (9, x9), (16, x16), (17, x17), (18, x18), (23, x23)]) h =
    bnd (aMax [x3, (.int .i64 0)]) fun v1 =>
    bnd (aMin [v1, (.int .i64 64)]) fun v2 =>
    k .normal (st 69 [(0, x0), (1, x1), (2, x2), (3, x3), (9, x9), (10, v2), (16, x16), (17, x17), (18, x18)]) h
  := by kernel_rfl
theorem r25_6 {β : Type} (call : CallF) (md : Bool) (n : Nat) (k : Ex → List AV → Heap → Option β) (x0 x1 x2 x3 x9 x10 x16 x17 x18 : AV) (h : Heap) :
    runK C0 call md 25 n (.region 6 (O25 6) true) k (st 69 [(0, x0), (1, x1), (2, x2), (3, x3), (9, x9), (10, x10), (16, x16), (17, x17), (18, x18)]) h =
    bnd (aNil x0) fun v1 =>
    bnd (aFieldAddr tab 84 v1 0) fun v2 =>
    bnd (aLoad tab 81 v2 h) fun v3 =>
    bnd (aFieldAddr tab 91 x9 0) fun v4 =>
    bnd (aLoad tab 3 v4 h) fun v5 =>
    bnd (aIndexAddr tab 81 v3 v5) fun v6 =>
    bnd (aSlice tab 89 v6 none (some x10) none) fun v7 =>
    bnd (aFieldAddr tab 91 x9 1) fun v8 =>
    bnd (aSlice tab 89 v8 none (some x10) none) fun v9 =>
    bnd2 (aCpy tab 22 v7 v9 h) fun v10 h11 =>
    k .normal (st 69 [(0, x0), (1, x1), (2, x2), (3, x3), (16, x16), (17, x17), (18, x18)]) h11
  := by kernel_rfl
theorem r25_7 {β : Type} (call : CallF) (md : Bool) (n : Nat) (k : Ex → List AV → Heap → Option β) (x0 x1 x2 x3 x8 x9 x16 x17 x18 x23 : AV) (h : Heap) :
    runK C0 call md 25 n (.region 7 (O25 7) false) k (st 69 [(0, x0), (1, x1), (2, x2), (3, x3), (8, x8), (9, x9), (16, x16), (17, x17), (18, x18), (23, x23)]) h =
    bnd (aBinC tab .rem 3 x8 (.int .i64 64) true) fun v1 =>
    bnd (aBinC tab .shr 44 x1 v1 false) fun v2 =>
    bnd (aBinC tab .and 44 v2 (.int .u64 1) true) fun v3 =>
    bnd (aBinC tab .eql 44 v3 (.int .u64 1) true) fun v4 =>
    k .normal (st 69 [(0, x0), (1, x1), (2, x2), (3, x3), (9, x9), (16, x16), (17, x17), (18, x18), (43, v4)]) h
  := by kernel_rfl
theorem r25_8 {β : Type} (call : CallF) (md : Bool) (n : Nat) (k : Ex → List AV → Heap → Option β) (x0 x1 x2 x3 x9 x16 x17 x18 x43 : AV) (h : Heap) :
    runK C0 call md 25 n (.region 8 (O25 8) true) k (st 69 [(0, x0), (1, x1), (2, x2), (3, x3), (9, x9), (16, x16), (17, x17), (18, x18), (43, x43)]) h =
    bnd (aNil x0) fun v1 =>
    bnd (aFieldAddr tab 84 v1 0) fun v2 =>
    bnd (aLoad tab 81 v2 h) fun v3 =>
    bnd (aFieldAddr tab 91 x9 0) fun v4 =>
    bnd (aLoad tab 3 v4 h) fun v5 =>
    bnd (aFieldAddr tab 91 x9 1) fun v6 =>
    bnd (aLoad tab 89 v6 h) fun v7 =>
    bnd (aIndexAddr tab 81 v3 v5) fun v8 =>
    bnd (aStore tab 89 v8 v7 h) fun h9 =>
    k .normal (st 69 [(0, x0), (1, x1), (2, x2), (3, x3), (16, x16), (17, x17), (18, x18)]) h9
  := by kernel_rfl
theorem r25_9a {β : Type} (call : CallF) (md : Bool) (n : Nat) (k : Ex → List AV → Heap → Option β) (x0 x1 x2 x3 x9 x16 x17 x18 x43 : AV) (h : Heap) :
    runK C0 call md 25 n (.region 9 (O25 9) false) k (st 69 [(0, x0), (1, x1), (2, x2), (3, x3), (9, x9), (16, x16), (17, x17), (18, x18), (43, x43)]) h =
    bnd (aBinC tab .add 3 x18 (.int .i64 1) true) fun v1 =>
    k .normal (st 69 [(0, x0), (1, x1), (2, x2), (3, x3), (16, x16), (17, x17), (18, v1)]) h
  := by kernel_rfl
theorem r25_9b {β : Type} (call : CallF) (md : Bool) (n : Nat) (k : Ex → List AV → Heap → Option β) (x0 x1 x2 x3 x16 x17 x18 : AV) (h : Heap) :
    runK C0 call md 25 n (.region 9 (O25 9) false) k (st 69 [(0, x0), (1, x1), (2, x2), (3, x3), (16, x16), (17, x17), (18, x18)]) h =
    bnd (aBinC tab .add 3 x18 (.int .i64 1) true) fun v1 =>
    k .normal (st 69 [(0, x0), (1, x1), (2, x2), (3, x3), (16, x16), (17, x17), (18, v1)]) h
  := by kernel_rfl
theorem r25_10 {β : Type} (call : CallF) (md : Bool) (n : Nat) (k : Ex → List AV → Heap → Option β) (x0 x1 x2 x3 x16 x17 x18 x19 : AV) (h : Heap) :
    runK C0 call md 25 n (.region 10 (O25 10) false) k (st 69 [(0, x0), (1, x1), (2, x2), (3, x3), (16, x16), (17, x17), (18, x18), (19, x19)]) h =
    bnd (aNil x0) fun v1 =>
    bnd (aFieldAddr tab 84 v1 1) fun v2 =>
    bnd (aStore tab 82 v2 .nils h) fun h3 =>
    bnd (aNil x0) fun v4 =>
    bnd (aFieldAddr tab 84 v4 2) fun v5 =>
    bnd (aStore tab 3 v5 (.int .i64 (-1)) h3) fun h6 =>
    bnd (aNil x0) fun v7 =>
    bnd (aFieldAddr tab 84 v7 3) fun v8 =>
    bnd (aStore tab 4 v8 (.bool false) h6) fun h9 =>
    k .normal (st 69 []) h9
  := by kernel_rfl
end Go.Ax

/- sector's disk: Fuse, Crash. -/
namespace Go.Ax
open Go Go.Proofs

theorem results0 (tm : List AV) : results [] tm = .tuple [] := rfl

def Dk.setFuse (d : Dk) (n : Int) : Dk := { d with fuse := max n 0 }

theorem fuse_ok {S : Obs} {p r : Nat} {h : Heap} {d : Dk} (D : Dsk S h p r d) (n : Int) (md : Bool) (k : Nat) :
    ∃ h', exFn C0 E0 (k + 1) md 24 [dp p, .int .i64 n] h = some (.tuple [], h') ∧ Dsk S h' p r (d.setFuse n) ∧ Keep S h h' := by
  obtain ⟨x, hx, ha⟩ := D.var
  have n0 : ([dp p, .int .i64 n] ++ List.replicate (11 - [dp p, AV.int .i64 n].length) AV.undef) = st 11 [(0, dp p), (1, .int .i64 n)] := rfl
  have mx : (if n < 0 then 0 else n) = max n 0 := by split <;> omega
  refine ⟨_, exFn_of e24 ?_, D.upd hx ha (max n 0) d.down, Keep.set h _ D.hp⟩
  rw [fnK, n0, s24]
  simp -implicitDefEqProofs only [↓runK_seq, runK_seq, ↓runK_cond, runK_cond, ↓runK_block, runK_block, ↓runK_loop, runK_loop, ↓runK_skip, runK_skip, ↓runK_ret, runK_ret, ↓runK_exit, runK_exit, ↓seqE_n, seqE_n, ↓seqE_e, seqE_e, ↓seqE_r, seqE_r, ↓blkE_n, blkE_n, ↓blkE_e, blkE_e, ↓blkE_r, blkE_r, ↓retK_n, retK_n, ↓retK_r, retK_r, ↓aCall_fn, aCall_fn, ↓bnd_s, bnd_s, ↓bnd2_s, bnd2_s, ↓onB_t, onB_t, ↓onB_f, onB_f, ↓onG_tt, onG_tt, ↓onG_tf, onG_tf, ↓onG_ft, onG_ft, ↓onG_ff, onG_ff, ↓onG_s, onG_s, ↓onT_t, onT_t, ↓aPick_t, aPick_t, ↓aPick_f, aPick_f, decide_true, decide_false, st_tmp, results1, results2, List.lookup_cons, List.lookup_nil, Nat.reduceBEq, Bool.false_eq_true, ↓reduceIte, BEq.rfl, Nat.reduceLT, Option.getD_some, Option.getD_none, ↓r24_0, r24_0, ↓r24_1, r24_1, dp_neq, dp_chk, dpf2, max2_i64, mx, dst2 hx, results0]

/-! ### Crash -/
def partOf (a : Int) : Nat := (min (max a 0) 64).toNat
def crashStep (K : Nat) (torn at' : Int) (k : Nat) (l : List (List UInt8)) (w : Nat × List UInt8) : List (List UInt8) :=
  if (k : Int) = torn then l.set w.1 (w.2.take (partOf at') ++ ((l[w.1]?).getD []).drop (partOf at'))
  else if K / 2 ^ (k % 64) % 2 = 1 then l.set w.1 w.2 else l
def crashed (K : Nat) (torn at' : Int) : Nat → List (List UInt8) → List (Nat × List UInt8) → List (List UInt8)
  | _, l, [] => l
  | k, l, w :: ws => crashed K torn at' (k + 1) (crashStep K torn at' k l w) ws
def Dk.crash (d : Dk) (K : Nat) (torn at' : Int) : Dk := ⟨crashed K torn at' 0 d.lasts d.loose, [], -1, false⟩

theorem crashStep_length (K : Nat) (torn at' : Int) (k : Nat) (l : List (List UInt8)) (w : Nat × List UInt8) : (crashStep K torn at' k l w).length = l.length := by
  unfold crashStep; split
  · simp
  · split <;> simp
theorem crashed_length (K : Nat) (torn at' : Int) : ∀ (ws : List (Nat × List UInt8)) (k : Nat) (l : List (List UInt8)), (crashed K torn at' k l ws).length = l.length
  | [], _, _ => rfl
  | w :: ws, k, l => by rw [crashed, crashed_length K torn at' ws, crashStep_length]
theorem partOf_le (a : Int) : partOf a ≤ 64 := by unfold partOf; omega
theorem crashStep_cells (K : Nat) (torn at' : Int) (k : Nat) (l : List (List UInt8)) (w : Nat × List UInt8) (hl : ∀ b ∈ l, b.length = 64) (hw : w.2.length = 64) (hi : w.1 < l.length) : ∀ b ∈ crashStep K torn at' k l w, b.length = 64 := by
  have hp := partOf_le at'
  have hc : ((l[w.1]?).getD []).length = 64 := by rw [List.getElem?_eq_getElem hi]; exact hl _ (List.getElem_mem hi)
  intro b hb
  unfold crashStep at hb
  split at hb
  · rcases List.mem_or_eq_of_mem_set hb with hb | rfl
    · exact hl b hb
    · simp [hw, hc]; omega
  · split at hb
    · rcases List.mem_or_eq_of_mem_set hb with hb | rfl
      · exact hl b hb
      · exact hw
    · exact hl b hb

theorem shr_64 (K n : Nat) (hn : n < 64) : aBinC tab .shr 44 (.int .u64 K) (.int .i64 n) false = some (.int .u64 ((K / 2 ^ n : Nat) : Int)) := by
  have e : Go.binOp .shr 44 (.int .u64 (K : Int)) (.int .i64 (n : Int)) = pure (.int .u64 ((K : Int) / 2 ^ n)) := by
    have := Go.shift_shr .u64 .i64 (K : Int) (n : Int) (by omega) (by have : IntKind.u64.bits = 64 := rfl; omega)
    rw [Int.toNat_natCast] at this
    exact this
  simp only [aBinC, aBin, e, ofPure, pure]
  simp
theorem and_64 (a : Nat) (ha : a < 2 ^ 64) : aBinC tab .and 44 (.int .u64 a) (.int .u64 1) true = some (.int .u64 ((a % 2 : Nat) : Int)) := by
  have e : Go.binOp .and 44 (.int .u64 (a : Int)) (.int .u64 1) = pure (.int .u64 (IntKind.u64.wrap ((BitVec.ofInt 64 (a : Int) &&& BitVec.ofInt 64 1).toNat : Int))) := rfl
  simp only [aBinC, aBin, e, ofPure, pure, wrap_u64]
  have e2 : (BitVec.ofInt 64 (a : Int) &&& BitVec.ofInt 64 1).toNat = a % 2 := by
    rw [BitVec.toNat_and]
    have h1 : (BitVec.ofInt 64 (a : Int)).toNat = a := by simp; omega
    have h2 : (BitVec.ofInt 64 (1 : Int)).toNat = 1 := by decide
    rw [h1, h2, Nat.and_one_is_mod]
  rw [e2]
  congr 2
  omega
theorem rem_64 (a : Nat) (ha : a < 2 ^ 62) : aBinC tab .rem 3 (.int .i64 a) (.int .i64 64) true = some (.int .i64 ((a % 64 : Nat) : Int)) := by
  simp [aBinC, aBin, Go.binOp, Op.intDiv, ofPure, pure]
  rw [Int.tmod_eq_emod_of_nonneg (by omega)]
  try rw [wrap_i64]
  all_goals try omega

theorem sl89_to (q i part : Nat) (hp : part ≤ 64) : aSlice tab 89 (.ref q [i] 88) none (some (.int .i64 part)) none = some (if 0 < part then .msl q [i] 5 0 part else .vsl 5 [] .none) := by
  have e : ((part : Int) ≤ 64) := by omega
  simp only [aSlice, td89, tu89, aBounds, aBound, tu5, if_true]
  by_cases h : 0 < part
  · simp [h, e]
  · simp [h, e]

/-- A part of a sector is written over. -/
theorem cpy_part {H : Heap} {r q i part : Nat} {c : List (List UInt8)} {w : Nat × List UInt8} (hp : part ≤ 64) (hr : H[r]? = some (.row 88 (c.map cellAV))) (hq : H[q]? = some (.var 91 (writeAV w))) (hi : i < c.length)
    (hc : c[i].length = 64) (hw : w.2.length = 64) :
    ∃ v H', aCpy tab 22 (if 0 < part then .msl r [i] 5 0 part else .vsl 5 [] .none) (if 0 < part then .msl q [1] 5 0 part else .vsl 5 [] .none) H = some (v, H') ∧
      H'[r]? = some (.row 88 ((c.set i (w.2.take part ++ c[i].drop part)).map cellAV)) ∧ ∀ j, j ≠ r → H'[j]? = H[j]? := by
  by_cases h : 0 < part
  · rw [if_pos h, if_pos h]
    have hlt := (List.getElem?_eq_some_iff.1 hr).1
    have hsrc : srcElems tab 5 H (.msl q [1] 5 0 part) = some ((w.2.take part).map U8) := by
      simp [srcElems, slElems, hq, rowGet, objGet, getP, writeAV, cellAV, hw, hp, List.map_take]
    have hl : (w.2.take part).length = part := by simp; omega
    refine ⟨.int .i64 part, H.set r (.row 88 ((c.set i (w.2.take part ++ c[i].drop part)).map cellAV)), ?_, by simp [hlt], fun j hj => List.getElem?_set_ne (by omega)⟩
    have hg : rowGet (.row 88 (c.map cellAV)) [i] = some (c[i].map U8) := by simp [rowGet, objGet, getP, cellAV, hi]
    have hs : rowSet ((w.2.take part ++ c[i].drop part).map U8) (.row 88 (c.map cellAV)) [i] = some (.row 88 ((c.set i (w.2.take part ++ c[i].drop part)).map cellAV)) := by
      simp [rowSet, objGet, getP, objSet, setP, cellAV, hi, List.map_set]
    simp only [aCpy, td22, tu5, hsrc, aCopy, hr, hg]
    simp only [if_true, Nat.zero_add, List.length_map, hc, hp, hl, Nat.min_self, List.take_zero, List.nil_append]
    rw [show ((w.2.take part).map U8).take part ++ (c[i].map U8).drop part = (w.2.take part ++ c[i].drop part).map U8 from by
      rw [List.map_append, List.map_drop, List.take_of_length_le (by rw [List.length_map]; omega)], hs]
  · obtain rfl : part = 0 := by omega
    refine ⟨.int .i64 0, H, by simp [aCpy, srcElems], ?_, fun _ _ => rfl⟩
    rw [hr]
    simp

theorem crash_loop {S : Obs} {h0 : Heap} {p r nL : Nat} {y : AV} {L : List (Nat × List UInt8)} {f : Int} {w : Bool} (hy : Ap 90 S h0 y (L.map writeAV)) (hL : L.length < 2 ^ 30)
    (hws : ∀ w ∈ L, w.1 < nL ∧ w.2.length = 64) (hs : nL ≠ 0 → S r) (KK : Nat) (hK : KK < 2 ^ 64) (torn at' : Int) (call : CallF) (N : Nat) (md : Bool) :
    ∀ (m i n : Nat) (h : Heap) (c : List (List UInt8)), i + m = L.length → m < n → Up S h → h[p]? = some (dv r nL y f w) → c.length = nL → (∀ b ∈ c, b.length = 64) → (nL ≠ 0 → h[r]? = some (.row 88 (c.map cellAV))) →
    ∃ h', (∀ K : Ex → List AV → Heap → Option (AV × Heap), loopK (fun next => runK C0 call md 25 N B25_1 (seqE next K)) n (st 69 [(0, dp p), (1, .int .u64 KK), (2, .int .i64 torn), (3, .int .i64 at'), (16, y), (17, .int .i64 L.length), (18, .int .i64 i)]) h =
      K (.exit 0) (st 69 [(0, dp p), (1, .int .u64 KK), (2, .int .i64 torn), (3, .int .i64 at'), (16, y), (17, .int .i64 L.length), (18, .int .i64 L.length), (19, .bool false)]) h') ∧
      h'[p]? = some (dv r nL y f w) ∧ (nL ≠ 0 → h'[r]? = some (.row 88 ((crashed KK torn at' i c (L.drop i)).map cellAV))) ∧ Keep S h h' := by
  intro m
  induction m with
  | zero =>
    intro i n h c hi hn up hp hcl hcc hr
    obtain ⟨n, rfl⟩ : ∃ j, n = j + 1 := ⟨n - 1, by omega⟩
    obtain rfl : i = L.length := by omega
    refine ⟨h, fun K => ?_, hp, by rw [List.drop_length]; exact hr, Keep.refl _ _⟩
    rw [loopK_succ]
    generalize loopK (_ : (List AV → Heap → Option (AV × Heap)) → List AV → Heap → Option (AV × Heap)) n = Lp
    have e : decide (((L.length : Nat) : Int) < (L.length : Nat)) = false := decide_eq_false (by omega)
    simp -implicitDefEqProofs only [B25_1, ↓runK_seq, runK_seq, ↓runK_cond, runK_cond, ↓runK_block, runK_block, ↓runK_loop, runK_loop, ↓runK_skip, runK_skip, ↓runK_ret, runK_ret, ↓runK_exit, runK_exit, ↓seqE_n, seqE_n, ↓seqE_e, seqE_e, ↓seqE_r, seqE_r, ↓blkE_n, blkE_n, ↓blkE_e, blkE_e, ↓blkE_r, blkE_r, ↓retK_n, retK_n, ↓retK_r, retK_r, ↓aCall_fn, aCall_fn, ↓bnd_s, bnd_s, ↓bnd2_s, bnd2_s, ↓onB_t, onB_t, ↓onB_f, onB_f, ↓onG_tt, onG_tt, ↓onG_tf, onG_tf, ↓onG_ft, onG_ft, ↓onG_ff, onG_ff, ↓onG_s, onG_s, ↓onT_t, onT_t, ↓aPick_t, aPick_t, ↓aPick_f, aPick_f, decide_true, decide_false, st_tmp, results1, results2, List.lookup_cons, List.lookup_nil, Nat.reduceBEq, Bool.false_eq_true, ↓reduceIte, BEq.rfl, Nat.reduceLT, Option.getD_some, Option.getD_none, ↓r25_0, r25_0, ↓r25_1, r25_1, ↓r25_2, r25_2, ↓r25_3, r25_3, ↓r25_4, r25_4, ↓r25_5, r25_5, ↓r25_6, r25_6, ↓r25_7, r25_7, ↓r25_8, r25_8, ↓r25_9a, r25_9a, ↓r25_9b, r25_9b, ↓r25_10, r25_10, bin_lss, e]
  | succ m ih =>
    intro i n h c hi hn up hp hcl hcc hr
    obtain ⟨n, rfl⟩ : ∃ j, n = j + 1 := ⟨n - 1, by omega⟩
    have hlt : i < L.length := by omega
    have hw : L[i]? = some L[i] := List.getElem?_eq_getElem hlt
    have hwl := hws _ (List.getElem_mem hlt)
    rw [drop_get hw]
    simp only [crashed]
    have e : decide (((i : Nat) : Int) < (L.length : Nat)) = true := decide_eq_true (by omega)
    have wr : IntKind.i64.wrap ((i : Int) + 1) = ((i + 1 : Nat) : Int) := by rw [wrap_i64] <;> omega
    generalize L[i] = v at *
    have hne : nL ≠ 0 := by omega
    have k1 : Keep (From h.length) h (h ++ [.var 91 (writeAV v)]) := Keep.app h _ (Up.fresh h)
    have hq : (h ++ [.var 91 (writeAV v)])[h.length]? = some (.var 91 (writeAV v)) := by simp
    have hsn := sn91 h v
    have hp1 : (h ++ [.var 91 (writeAV v)])[p]? = some (dv r nL y f w) := by rw [List.getElem?_append_left (List.getElem?_eq_some_iff.1 hp).1]; exact hp
    have hr1 : (h ++ [.var 91 (writeAV v)])[r]? = some (.row 88 (c.map cellAV)) := by rw [List.getElem?_append_left (List.getElem?_eq_some_iff.1 (hr hne)).1]; exact hr hne
    have kk := k1.up up
    have hlen1 : (h ++ [Obj.var 91 (writeAV v)]).length = h.length + 1 := by simp
    generalize h ++ [Obj.var 91 (writeAV v)] = H at *
    have hrp : r ≠ p := by intro e; subst e; rw [hp1] at hr1; cases hr1
    have hvc : v.1 < c.length := by omega
    have hcv : c[v.1].length = 64 := hcc _ (List.getElem_mem hvc)
    have hget : (c[v.1]?).getD [] = c[v.1] := by rw [List.getElem?_eq_getElem hvc]; rfl
    -- the next step, whatever the world is then
    have next : ∀ (H' : Heap), H'.length = H.length → H'[r]? = some (.row 88 ((crashStep KK torn at' i c v).map cellAV)) → (∀ j, j ≠ r → H'[j]? = H[j]?) →
        ∃ h', (∀ K : Ex → List AV → Heap → Option (AV × Heap), loopK (fun next => runK C0 call md 25 N B25_1 (seqE next K)) n (st 69 [(0, dp p), (1, .int .u64 KK), (2, .int .i64 torn), (3, .int .i64 at'), (16, y), (17, .int .i64 L.length), (18, .int .i64 ((i + 1 : Nat) : Int))]) H' =
          K (.exit 0) (st 69 [(0, dp p), (1, .int .u64 KK), (2, .int .i64 torn), (3, .int .i64 at'), (16, y), (17, .int .i64 L.length), (18, .int .i64 L.length), (19, .bool false)]) h') ∧
          h'[p]? = some (dv r nL y f w) ∧ (nL ≠ 0 → h'[r]? = some (.row 88 ((crashed KK torn at' (i + 1) (crashStep KK torn at' i c v) (L.drop (i + 1))).map cellAV))) ∧ Keep S h h' := by
      intro H' hl' hr' ho'
      have k2 : Keep S H H' := ⟨by omega, fun j hj => ho' j (by rintro rfl; exact hj (hs hne))⟩
      obtain ⟨h', g1, g2, g3, g4⟩ := ih (i + 1) n H' (crashStep KK torn at' i c v) (by omega) (by omega) ((up.keep kk).keep k2) (by rw [ho' p (fun e => hrp e.symm)]; exact hp1)
        (by rw [crashStep_length]; exact hcl) (crashStep_cells KK torn at' i c v hcc hwl.2 hvc) (fun _ => hr')
      exact ⟨h', g1, g2, g3, (kk.trans k2).trans g4⟩
    have mx : (if (64 : Int) < (if at' < 0 then 0 else at') then 64 else (if at' < 0 then 0 else at')) = ((partOf at' : Nat) : Int) := by unfold partOf; split <;> split <;> omega
    by_cases ht : (i : Int) = torn
    · have e1 : decide ((i : Int) = torn) = true := decide_eq_true ht
      obtain ⟨u, H', cp, hr', ho'⟩ := cpy_part (partOf_le at') hr1 hq hvc hcv hwl.2
      have hcs : crashStep KK torn at' i c v = c.set v.1 (v.2.take (partOf at') ++ c[v.1].drop (partOf at')) := by unfold crashStep; rw [if_pos ht, hget]
      have hl' : H'.length = H.length := by
        have hc := cp
        unfold aCpy at hc
        simp only [td22, tu5] at hc
        by_cases hpt : 0 < partOf at'
        · rw [if_pos hpt] at hc
          simp only [if_true] at hc
          split at hc
          · unfold aCopy at hc
            simp only [hr1] at hc
            split at hc
            · split at hc
              · split at hc
                · cases hc; simp
                · cases hc
              · cases hc
            · cases hc
          · cases hc
        · rw [if_neg hpt] at hc
          simp only [if_true] at hc
          split at hc
          · cases hc; rfl
          · cases hc
      obtain ⟨h', g1, g2, g3, g4⟩ := next H' hl' (by rw [hcs]; exact hr') ho'
      refine ⟨h', fun K => ?_, g2, g3, g4⟩
      rw [loopK_succ, ← g1 K]
      generalize loopK (_ : (List AV → Heap → Option (AV × Heap)) → List AV → Heap → Option (AV × Heap)) n = Lp
      simp -implicitDefEqProofs only [B25_1, ↓runK_seq, runK_seq, ↓runK_cond, runK_cond, ↓runK_block, runK_block, ↓runK_loop, runK_loop, ↓runK_skip, runK_skip, ↓runK_ret, runK_ret, ↓runK_exit, runK_exit, ↓seqE_n, seqE_n, ↓seqE_e, seqE_e, ↓seqE_r, seqE_r, ↓blkE_n, blkE_n, ↓blkE_e, blkE_e, ↓blkE_r, blkE_r, ↓retK_n, retK_n, ↓retK_r, retK_r, ↓aCall_fn, aCall_fn, ↓bnd_s, bnd_s, ↓bnd2_s, bnd2_s, ↓onB_t, onB_t, ↓onB_f, onB_f, ↓onG_tt, onG_tt, ↓onG_tf, onG_tf, ↓onG_ft, onG_ft, ↓onG_ff, onG_ff, ↓onG_s, onG_s, ↓onT_t, onT_t, ↓aPick_t, aPick_t, ↓aPick_f, aPick_f, decide_true, decide_false, st_tmp, results1, results2, List.lookup_cons, List.lookup_nil, Nat.reduceBEq, Bool.false_eq_true, ↓reduceIte, BEq.rfl, Nat.reduceLT, Option.getD_some, Option.getD_none, ↓r25_0, r25_0, ↓r25_1, r25_1, ↓r25_2, r25_2, ↓r25_3, r25_3, ↓r25_4, r25_4, ↓r25_5, r25_5, ↓r25_6, r25_6, ↓r25_7, r25_7, ↓r25_8, r25_8, ↓r25_9a, r25_9a, ↓r25_9b, r25_9b, ↓r25_10, r25_10, bin_lss, e, idx82 hy hw, load91v, alloc91, hsn, bin_eql, e1, max2_i64, min2_i64, mx, dp_chk, dpf0, dld0 hp1, fa91_0, wld0 hq, fa91_1, idx81 r _ v.1 hwl.1, sl89_to _ _ _ (partOf_le at'), cp, bin_add, wr]
    · have e1 : decide ((i : Int) = torn) = false := decide_eq_false ht
      have hb : KK / 2 ^ (i % 64) < 2 ^ 64 := Nat.lt_of_le_of_lt (Nat.div_le_self _ _) hK
      by_cases hk : KK / 2 ^ (i % 64) % 2 = 1
      · have e2 : decide (((KK / 2 ^ (i % 64) % 2 : Nat) : Int) = 1) = true := decide_eq_true (by omega)
        have sc := store_cell (c := v.2) hr1 hvc
        have hcs : crashStep KK torn at' i c v = c.set v.1 v.2 := by unfold crashStep; rw [if_neg ht, if_pos hk]
        obtain ⟨h', g1, g2, g3, g4⟩ := next (H.set r (.row 88 ((c.set v.1 v.2).map cellAV))) (by simp) (by rw [hcs]; simp [(List.getElem?_eq_some_iff.1 hr1).1]) (fun j hj => List.getElem?_set_ne (by omega))
        refine ⟨h', fun K => ?_, g2, g3, g4⟩
        rw [loopK_succ, ← g1 K]
        generalize loopK (_ : (List AV → Heap → Option (AV × Heap)) → List AV → Heap → Option (AV × Heap)) n = Lp
        simp -implicitDefEqProofs only [B25_1, ↓runK_seq, runK_seq, ↓runK_cond, runK_cond, ↓runK_block, runK_block, ↓runK_loop, runK_loop, ↓runK_skip, runK_skip, ↓runK_ret, runK_ret, ↓runK_exit, runK_exit, ↓seqE_n, seqE_n, ↓seqE_e, seqE_e, ↓seqE_r, seqE_r, ↓blkE_n, blkE_n, ↓blkE_e, blkE_e, ↓blkE_r, blkE_r, ↓retK_n, retK_n, ↓retK_r, retK_r, ↓aCall_fn, aCall_fn, ↓bnd_s, bnd_s, ↓bnd2_s, bnd2_s, ↓onB_t, onB_t, ↓onB_f, onB_f, ↓onG_tt, onG_tt, ↓onG_tf, onG_tf, ↓onG_ft, onG_ft, ↓onG_ff, onG_ff, ↓onG_s, onG_s, ↓onT_t, onT_t, ↓aPick_t, aPick_t, ↓aPick_f, aPick_f, decide_true, decide_false, st_tmp, results1, results2, List.lookup_cons, List.lookup_nil, Nat.reduceBEq, Bool.false_eq_true, ↓reduceIte, BEq.rfl, Nat.reduceLT, Option.getD_some, Option.getD_none, ↓r25_0, r25_0, ↓r25_1, r25_1, ↓r25_2, r25_2, ↓r25_3, r25_3, ↓r25_4, r25_4, ↓r25_5, r25_5, ↓r25_6, r25_6, ↓r25_7, r25_7, ↓r25_8, r25_8, ↓r25_9a, r25_9a, ↓r25_9b, r25_9b, ↓r25_10, r25_10, bin_lss, e, idx82 hy hw, load91v, alloc91, hsn, bin_eql, e1, rem_64 i (by omega), shr_64 KK (i % 64) (by omega), and_64 _ hb, e2, dp_chk, dpf0, dld0 hp1, fa91_0, wld0 hq, fa91_1, wld1 hq, idx81 r _ v.1 hwl.1, sc, bin_add, wr]
      · have e2 : decide (((KK / 2 ^ (i % 64) % 2 : Nat) : Int) = 1) = false := decide_eq_false (by omega)
        have hcs : crashStep KK torn at' i c v = c := by unfold crashStep; rw [if_neg ht, if_neg hk]
        obtain ⟨h', g1, g2, g3, g4⟩ := next H rfl (by rw [hcs]; exact hr1) (fun _ _ => rfl)
        refine ⟨h', fun K => ?_, g2, g3, g4⟩
        rw [loopK_succ, ← g1 K]
        generalize loopK (_ : (List AV → Heap → Option (AV × Heap)) → List AV → Heap → Option (AV × Heap)) n = Lp
        simp -implicitDefEqProofs only [B25_1, ↓runK_seq, runK_seq, ↓runK_cond, runK_cond, ↓runK_block, runK_block, ↓runK_loop, runK_loop, ↓runK_skip, runK_skip, ↓runK_ret, runK_ret, ↓runK_exit, runK_exit, ↓seqE_n, seqE_n, ↓seqE_e, seqE_e, ↓seqE_r, seqE_r, ↓blkE_n, blkE_n, ↓blkE_e, blkE_e, ↓blkE_r, blkE_r, ↓retK_n, retK_n, ↓retK_r, retK_r, ↓aCall_fn, aCall_fn, ↓bnd_s, bnd_s, ↓bnd2_s, bnd2_s, ↓onB_t, onB_t, ↓onB_f, onB_f, ↓onG_tt, onG_tt, ↓onG_tf, onG_tf, ↓onG_ft, onG_ft, ↓onG_ff, onG_ff, ↓onG_s, onG_s, ↓onT_t, onT_t, ↓aPick_t, aPick_t, ↓aPick_f, aPick_f, decide_true, decide_false, st_tmp, results1, results2, List.lookup_cons, List.lookup_nil, Nat.reduceBEq, Bool.false_eq_true, ↓reduceIte, BEq.rfl, Nat.reduceLT, Option.getD_some, Option.getD_none, ↓r25_0, r25_0, ↓r25_1, r25_1, ↓r25_2, r25_2, ↓r25_3, r25_3, ↓r25_4, r25_4, ↓r25_5, r25_5, ↓r25_6, r25_6, ↓r25_7, r25_7, ↓r25_8, r25_8, ↓r25_9a, r25_9a, ↓r25_9b, r25_9b, ↓r25_10, r25_10, bin_lss, e, idx82 hy hw, load91v, alloc91, hsn, bin_eql, e1, rem_64 i (by omega), shr_64 KK (i % 64) (by omega), and_64 _ hb, e2, bin_add, wr]

theorem crash_ok {S : Obs} {p r : Nat} {h : Heap} {d : Dk} (D : Dsk S h p r d) (up : Up S h) (hl : d.loose.length < 2 ^ 30) (KK : Nat) (hK : KK < 2 ^ 64) (torn at' : Int) (md : Bool) (k : Nat) (hk : d.loose.length < k) :
    ∃ h', exFn C0 E0 (k + 1) md 25 [dp p, .int .u64 KK, .int .i64 torn, .int .i64 at'] h = some (.tuple [], h') ∧ Dsk S h' p r (d.crash KK torn at') ∧ Keep S h h' := by
  obtain ⟨x, hx, ha⟩ := D.var
  have n0 : ([dp p, .int .u64 KK, .int .i64 torn, .int .i64 at'] ++ List.replicate (69 - [dp p, AV.int .u64 KK, .int .i64 torn, .int .i64 at'].length) AV.undef) = st 69 [(0, dp p), (1, .int .u64 KK), (2, .int .i64 torn), (3, .int .i64 at')] := rfl
  have hlen := len82 ha
  rw [List.length_map] at hlen
  have hz : ∀ {l : List (List UInt8)}, l.length ≠ 0 → l ≠ [] := fun h e => h (by rw [e]; rfl)
  obtain ⟨h1, f1, f2, f3, f4⟩ := crash_loop (f := d.fuse) (w := d.down) ha hl D.loose (fun h => D.hr (hz h)) KK hK torn at' (exFn C0 E0 k) k md d.loose.length 0 k h d.lasts (by omega) hk up hx rfl D.cells (fun h => D.row (hz h))
  rw [show ((0 : Nat) : Int) = 0 from rfl] at f1
  have hlt : p < h1.length := (List.getElem?_eq_some_iff.1 f2).1
  have hx1 : (h1.set p (dv r d.lasts.length .nils d.fuse d.down))[p]? = some (dv r d.lasts.length .nils d.fuse d.down) := by simp [hlt]
  have hx2 : (h1.set p (dv r d.lasts.length .nils (-1) d.down))[p]? = some (dv r d.lasts.length .nils (-1) d.down) := by simp [hlt]
  have t1 := dst1 f2 (y := .nils) rfl
  have t2 := dst2 hx1 (-1)
  rw [List.set_set] at t2
  have t3 := dst3 hx2 false
  rw [List.set_set] at t3
  have hcl : (crashed KK torn at' 0 d.lasts d.loose).length = d.lasts.length := crashed_length _ _ _ _ _ _
  have hcells : ∀ (ws : List (Nat × List UInt8)) (k : Nat) (l : List (List UInt8)), l.length = d.lasts.length → (∀ b ∈ l, b.length = 64) → (∀ w ∈ ws, w.1 < d.lasts.length ∧ w.2.length = 64) → ∀ b ∈ crashed KK torn at' k l ws, b.length = 64 := by
    intro ws
    induction ws with
    | nil => intro k l _ h _; exact h
    | cons w ws ih =>
      intro k l e h hw
      have h0 := hw w List.mem_cons_self
      exact ih (k + 1) _ (by rw [crashStep_length]; exact e) (crashStep_cells KK torn at' k l w h h0.2 (by omega)) fun v hv => hw v (List.mem_cons_of_mem _ hv)
  refine ⟨h1.set p (dv r d.lasts.length .nils (-1) false), exFn_of e25 ?_, ?_, f4.trans (Keep.set h1 _ D.hp)⟩
  · rw [fnK, n0, s25]
    simp -implicitDefEqProofs only [↓runK_seq, runK_seq, ↓runK_cond, runK_cond, ↓runK_block, runK_block, ↓runK_loop, runK_loop, ↓runK_skip, runK_skip, ↓runK_ret, runK_ret, ↓runK_exit, runK_exit, ↓seqE_n, seqE_n, ↓seqE_e, seqE_e, ↓seqE_r, seqE_r, ↓blkE_n, blkE_n, ↓blkE_e, blkE_e, ↓blkE_r, blkE_r, ↓retK_n, retK_n, ↓retK_r, retK_r, ↓aCall_fn, aCall_fn, ↓bnd_s, bnd_s, ↓bnd2_s, bnd2_s, ↓onB_t, onB_t, ↓onB_f, onB_f, ↓onG_tt, onG_tt, ↓onG_tf, onG_tf, ↓onG_ft, onG_ft, ↓onG_ff, onG_ff, ↓onG_s, onG_s, ↓onT_t, onT_t, ↓aPick_t, aPick_t, ↓aPick_f, aPick_f, decide_true, decide_false, st_tmp, results1, results2, List.lookup_cons, List.lookup_nil, Nat.reduceBEq, Bool.false_eq_true, ↓reduceIte, BEq.rfl, Nat.reduceLT, Option.getD_some, Option.getD_none, ↓r25_0, r25_0, ↓r25_1, r25_1, ↓r25_2, r25_2, ↓r25_3, r25_3, ↓r25_4, r25_4, ↓r25_5, r25_5, ↓r25_6, r25_6, ↓r25_7, r25_7, ↓r25_8, r25_8, ↓r25_9a, r25_9a, ↓r25_9b, r25_9b, ↓r25_10, r25_10, dp_nil, dp_chk, dpf1, dld1 hx, hlen]
    rw [f1]
    simp -implicitDefEqProofs only [↓runK_seq, runK_seq, ↓runK_cond, runK_cond, ↓runK_block, runK_block, ↓runK_loop, runK_loop, ↓runK_skip, runK_skip, ↓runK_ret, runK_ret, ↓runK_exit, runK_exit, ↓seqE_n, seqE_n, ↓seqE_e, seqE_e, ↓seqE_r, seqE_r, ↓blkE_n, blkE_n, ↓blkE_e, blkE_e, ↓blkE_r, blkE_r, ↓retK_n, retK_n, ↓retK_r, retK_r, ↓aCall_fn, aCall_fn, ↓bnd_s, bnd_s, ↓bnd2_s, bnd2_s, ↓onB_t, onB_t, ↓onB_f, onB_f, ↓onG_tt, onG_tt, ↓onG_tf, onG_tf, ↓onG_ft, onG_ft, ↓onG_ff, onG_ff, ↓onG_s, onG_s, ↓onT_t, onT_t, ↓aPick_t, aPick_t, ↓aPick_f, aPick_f, decide_true, decide_false, st_tmp, results1, results2, List.lookup_cons, List.lookup_nil, Nat.reduceBEq, Bool.false_eq_true, ↓reduceIte, BEq.rfl, Nat.reduceLT, Option.getD_some, Option.getD_none, ↓r25_0, r25_0, ↓r25_1, r25_1, ↓r25_2, r25_2, ↓r25_3, r25_3, ↓r25_4, r25_4, ↓r25_5, r25_5, ↓r25_6, r25_6, ↓r25_7, r25_7, ↓r25_8, r25_8, ↓r25_9a, r25_9a, ↓r25_9b, r25_9b, ↓r25_10, r25_10, dp_chk, dpf1, dpf2, dpf3, t1, t2, t3, results0]
  · refine ⟨D.hp, fun hne => D.hr (hz (by rw [← hcl]; intro e; exact hne (List.eq_nil_of_length_eq_zero e))), ⟨.nils, ?_, .inl ⟨rfl, rfl⟩⟩, fun hne => ?_, hcells _ _ _ rfl D.cells D.loose, fun w hw => (List.not_mem_nil hw).elim, by show (crashed KK torn at' 0 d.lasts d.loose).length ≤ 1024; rw [hcl]; exact D.few⟩
    · show (h1.set p (dv r d.lasts.length .nils (-1) false))[p]? = some (dv r (crashed KK torn at' 0 d.lasts d.loose).length .nils (-1) false)
      rw [hcl, List.getElem?_set_self hlt]
    · have hne' : d.lasts.length ≠ 0 := by rw [← hcl]; intro e; exact hne (List.eq_nil_of_length_eq_zero e)
      have hr := f3 hne'
      rw [List.getElem?_set_ne]
      · exact hr
      · intro e
        subst e
        rw [f2] at hr
        cases hr
end Go.Ax

/- Plain law of RegionTorn: an entry that is written while the power goes is there wholly, or not at all. -/
namespace Go.Ax
open Go Go.Proofs

theorem fz_write (l : List (List UInt8)) (ws : List (Nat × List UInt8)) (F a : Nat) (b : List UInt8) (ha : a < l.length) (hb : b.length ≤ 64) :
    (⟨l, ws, F, false⟩ : Dk).write a b = if F = 0 then (4, ⟨l, ws, 0, true⟩) else (0, ⟨l, ws ++ [(a, pad b)], ((F - 1 : Nat) : Int), false⟩) := by
  unfold Dk.write
  rw [if_neg (by rintro (h | h); exact h ⟨by omega, by simpa using ha⟩; omega)]
  by_cases h : F = 0
  · subst h; simp [Dk.burn]
  · have h0 : ¬ ((F : Int) = 0) := by omega
    have h1 : (0 : Int) < F := by omega
    simp [Dk.burn, Dk.add, h, h1]
    omega
theorem fz_flush (l : List (List UInt8)) (ws : List (Nat × List UInt8)) (F : Nat) :
    (⟨l, ws, F, false⟩ : Dk).flush = if F = 0 then (4, ⟨l, ws, 0, true⟩) else (0, ⟨land l ws, [], ((F - 1 : Nat) : Int), false⟩) := by
  unfold Dk.flush
  by_cases h : F = 0
  · subst h; simp [Dk.burn]
  · have h0 : ¬ ((F : Int) = 0) := by omega
    have h1 : (0 : Int) < F := by omega
    simp [Dk.burn, Dk.now, h, h1]
    omega

theorem fz_loop (l : List (List UInt8)) (a : Nat) (b : List UInt8) : ∀ (m i F : Nat) (ws : List (Nat × List UInt8)), a + i + m ≤ l.length →
    layLoop a b m i ⟨l, ws, F, false⟩ = if m ≤ F then (0, ⟨l, ws ++ parts a b i m, ((F - m : Nat) : Int), false⟩) else (4, ⟨l, ws ++ parts a b i F, 0, true⟩) := by
  intro m
  induction m with
  | zero => intro i F ws _; simp [layLoop, parts]
  | succ m ih =>
    intro i F ws h
    have e : ((a : Int) + i) = ((a + i : Nat) : Int) := by omega
    have w := fz_write l ws F (a + i) (chunk b i) (by omega) (chunk_length b i)
    by_cases hF : F = 0
    · rw [if_pos hF] at w
      rw [layLoop_no (by rw [e, w]; exact (by decide : (4 : Int) ≠ 0)), e, w, if_neg (by omega), hF]
      simp [parts]
    · rw [if_neg hF] at w
      rw [layLoop_go (by rw [e, w]), e, w, ih (i + 1) (F - 1) _ (by omega)]
      by_cases hm : m + 1 ≤ F
      · rw [if_pos (by omega), if_pos hm, parts_succ, show F - 1 - m = F - (m + 1) by omega]
        simp
      · rw [if_neg (by omega), if_neg hm]
        obtain ⟨F, rfl⟩ : ∃ j, F = j + 1 := ⟨F - 1, by omega⟩
        rw [parts_succ]
        simp

/-- What becomes of a Lay whose power may go. -/
inductive Laid (l : List (List UInt8)) (n : Nat) (b : List UInt8) : (Int × Int) × Dk → Prop
  | all {x f} : Laid l n b ((x, 0), ⟨laid l n 5 b, [], f, false⟩)
  | none {x e l' ws} : e ≠ 0 → l'.length = l.length → (∀ j, j ≤ n → l'[j]? = l[j]?) → (∀ w ∈ ws, n < w.1) → ws.length ≤ nOf b → Laid l n b ((x, e), ⟨l', ws, 0, true⟩)
  | head {x e} : e ≠ 0 → Laid l n b ((x, e), ⟨land l (parts n b 1 (nOf b - 1)), [(n, pad (head16 5 b))], 0, true⟩)

theorem parts_mem {a : Nat} {b : List UInt8} {i m : Nat} {w : Nat × List UInt8} (h : w ∈ parts a b i m) : a + i ≤ w.1 := by
  simp only [parts, List.mem_map, List.mem_range'_1] at h
  obtain ⟨j, ⟨h1, -⟩, rfl⟩ := h
  simp only; omega
theorem parts_length (a : Nat) (b : List UInt8) (i m : Nat) : (parts a b i m).length = m := by simp [parts]

theorem ofInt5 : BitVec.ofInt 32 5 = 5#32 := by decide

theorem laid_of (l : List (List UInt8)) (n F : Nat) (b : List UInt8) (hb : b.length ≤ 8192) (hn : n + nOf b ≤ l.length) (e : Int) (he : (n : Int) + nOf b ≤ e) : Laid l n b ((⟨l, [], F, false⟩ : Dk).lay n e 5 b) := by
  have hn1 := nOf_eq b
  have hn2 := nOf_eq' b
  have hloop := fz_loop l n b (nOf b - 1) 1 F [] (by omega)
  rw [lay_go (d := ⟨l, [], F, false⟩) (by omega) (by show ¬ (_ ∨ min e (l.length : Int) - _ < _); omega) hloop]
  by_cases h1 : nOf b - 1 ≤ F
  · rw [if_pos h1]
    simp only [List.nil_append]
    rw [if_neg (fun h => h rfl), fz_flush]
    by_cases h2 : F - (nOf b - 1) = 0
    · rw [if_pos h2]
      simp only
      rw [if_pos (by decide)]
      exact .none (by decide) rfl (fun _ _ => rfl) (fun w hw => by have := parts_mem hw; omega) (by rw [parts_length]; omega)
    · rw [if_neg h2]
      simp only
      rw [if_neg (fun h => h rfl)]
      have hll : (land l (parts n b 1 (nOf b - 1))).length = l.length := land_length _ _
      rw [fz_write _ _ _ n _ (by omega) (by rw [head16_length]; omega)]
      by_cases h3 : F - (nOf b - 1) - 1 = 0
      · rw [if_pos h3]
        simp only
        rw [if_pos (by decide)]
        refine .none (by decide) hll (fun j hj => ?_) (fun w hw => (List.not_mem_nil hw).elim) (by simp)
        rw [land_parts l n b 1 _ j (by omega), if_neg (by omega)]
      · rw [if_neg h3]
        simp only
        rw [if_neg (fun h => h rfl), fz_flush, List.nil_append]
        by_cases h4 : F - (nOf b - 1) - 1 - 1 = 0
        · rw [if_pos h4]
          simp only
          rw [if_pos (by decide), ofInt5]
          exact .head (by decide)
        · rw [if_neg h4]
          simp only
          rw [if_neg (fun h => h rfl), ← land_append]
          exact .all
  · rw [if_neg h1]
    simp only [List.nil_append]
    rw [if_pos (by decide)]
    exact .none (by decide) rfl (fun _ _ => rfl) (fun w hw => by have := parts_mem hw; omega) (by rw [parts_length]; omega)

/-! ### Behind a crash -/
theorem crashed_keep (K : Nat) (torn at' : Int) (n : Nat) : ∀ (ws : List (Nat × List UInt8)) (k : Nat) (l : List (List UInt8)), (∀ w ∈ ws, n < w.1) → ∀ j, j ≤ n → (crashed K torn at' k l ws)[j]? = l[j]?
  | [], _, _, _, _, _ => rfl
  | w :: ws, k, l, h, j, hj => by
    rw [crashed, crashed_keep K torn at' n ws (k + 1) _ (fun v hv => h v (List.mem_cons_of_mem _ hv)) j hj]
    have := h w List.mem_cons_self
    unfold crashStep
    split
    · rw [List.getElem?_set_ne (by omega)]
    · split
      · rw [List.getElem?_set_ne (by omega)]
      · rfl

/-- A sector in whose head only some bytes have landed. -/
def tornHead (b : List UInt8) (p : Nat) : List UInt8 := (pad (head16 5 b)).take p ++ (List.replicate 64 (0 : UInt8)).drop p

theorem be4_small (v : Nat) (hv : v < 65536) : be4 (BitVec.ofNat 32 v) = [0, 0, UInt8.ofNat (v / 256), UInt8.ofNat v] := by
  simp only [be4, byte, List.cons.injEq, and_true]
  refine ⟨?_, ?_, ?_, ?_⟩
  · apply UInt8.toNat_inj.1; simp [Nat.shiftRight_eq_div_pow]; omega
  · apply UInt8.toNat_inj.1; simp [Nat.shiftRight_eq_div_pow]; omega
  · apply UInt8.toNat_inj.1; simp [Nat.shiftRight_eq_div_pow]; omega
  · apply UInt8.toNat_inj.1; rw [UInt8.toNat_ofBitVec, BitVec.toNat_setWidth, BitVec.toNat_ofNat, UInt8.toNat_ofNat']; omega

theorem crc_head0 : crc [0, 0, 0, 5, 0, 0, 0, 0, 0, 0, 0, 0] ≠ 0#32 := by decide +kernel
theorem crc_head1 : crc [0, 0, 0, 5, 0, 0, 1, 0, 0, 0, 0, 0] ≠ 0#32 := by decide +kernel

theorem head_pad (b : List UInt8) : pad (head16 5 b) = be4 5 ++ (be4 (BitVec.ofNat 32 b.length) ++ (be4 (crc b) ++ (be4 (crc (head12 5 b)) ++ List.replicate 48 0))) := by
  unfold pad; rw [head16_length]; simp [head16, head12]
theorem be4_5 : be4 5 = [0, 0, 0, 5] := by decide

/-- Of a head that landed in part nothing is found, or all of it landed. -/
theorem torn_head (s : List (List UInt8)) (n : Nat) (b : List UInt8) (hb : b.length ≤ 400) (p : Nat) (hs : s[n]? = some (tornHead b p)) (e : Int) (hn : (n : Int) + nOf b ≤ e) (hl : n + nOf b ≤ s.length)
    (hj : ∀ j, 1 ≤ j → j < nOf b → s[n + j]? = some (pad (chunk b j))) : oneOf s n e 5 = none ∨ tornHead b p = pad (head16 5 b) := by
  have hn1 := nOf_eq b
  have hn2 := nOf_eq' b
  have hsm := be4_small b.length (by omega)
  by_cases h16 : 16 ≤ p
  · right
    unfold tornHead pad
    rw [head16_length, List.take_append, head16_length, List.take_of_length_le (by rw [head16_length]; exact h16), List.take_replicate, List.drop_replicate, List.append_assoc, List.replicate_append_replicate]
    congr 2; omega
  by_cases h8 : p < 8
  · left
    by_cases h4 : p < 4
    · refine one_blank s n e 5 ?_
      rw [hs, tornHead, head_pad, be4_5]
      obtain rfl | rfl | rfl | rfl : p = 0 ∨ p = 1 ∨ p = 2 ∨ p = 3 := by omega
      all_goals rfl
    · refine oneOf_head hs (.inr (.inr ?_))
      rw [tornHead, head_pad, be4_5, hsm]
      have hq : b.length / 256 = 0 ∨ b.length / 256 = 1 := by omega
      obtain rfl | rfl | rfl | rfl : p = 4 ∨ p = 5 ∨ p = 6 ∨ p = 7 := by omega
      · exact crc_head0
      · exact crc_head0
      · exact crc_head0
      · rcases hq with hq | hq
        · rw [hq]; exact crc_head0
        · rw [hq]; exact crc_head1
  · -- the length is there: the body is b
    have t8 : (tornHead b p).take 8 = be4 5 ++ be4 (BitVec.ofNat 32 b.length) := by
      rw [tornHead, head_pad]
      obtain rfl | rfl | rfl | rfl | rfl | rfl | rfl | rfl : p = 8 ∨ p = 9 ∨ p = 10 ∨ p = 11 ∨ p = 12 ∨ p = 13 ∨ p = 14 ∨ p = 15 := by omega
      all_goals rfl
    have d16 : (tornHead b p).drop 16 = List.replicate 48 0 := by
      rw [tornHead, head_pad]
      obtain rfl | rfl | rfl | rfl | rfl | rfl | rfl | rfl : p = 8 ∨ p = 9 ∨ p = 10 ∨ p = 11 ∨ p = 12 ∨ p = 13 ∨ p = 14 ∨ p = 15 := by omega
      all_goals rfl
    by_cases hh : e ≤ (n : Int) ∨ get4 (tornHead b p) ≠ BitVec.ofInt 32 5 ∨ crc ((tornHead b p).take 12) ≠ get4 ((tornHead b p).drop 12)
    · exact .inl (oneOf_head hs hh)
    · have p4 : get4 ((tornHead b p).drop 4) = BitVec.ofNat 32 b.length := by
        have : (tornHead b p).drop 4 = be4 (BitVec.ofNat 32 b.length) ++ (tornHead b p).drop 8 := by
          have h1 : tornHead b p = (tornHead b p).take 8 ++ (tornHead b p).drop 8 := (List.take_append_drop 8 _).symm
          rw [t8] at h1
          rw [h1]
          rfl
        rw [this, get4_be4]
      have sz : (BitVec.ofNat 32 b.length).toNat = b.length := by simp; omega
      have bd := body_chunks s n b (nOf b - 1) (by omega) fun j h1 h2 => hj j h1 (by omega)
      rw [List.take_of_length_le (l := b) (by omega)] at bd
      have hgo := oneOf_go (now := s) (a := n) (nn := nOf b) (e := e) (gen := 5) hs hh (by rw [p4, sz]; omega) (by rw [p4, sz]; exact hn1.symm)
      rw [p4, sz, bd, List.take_left' rfl, ofInt5] at hgo
      by_cases hc : head16 5 b = (tornHead b p).take 16
      · right
        have h1 : tornHead b p = (tornHead b p).take 16 ++ (tornHead b p).drop 16 := (List.take_append_drop 16 _).symm
        rw [← hc, d16] at h1
        rw [h1, pad, head16_length]
      · left
        rw [hgo, if_neg (fun h => hc h.1)]

def bl30 : List (List UInt8) := List.replicate 30 (List.replicate 64 0)
def la (a : List UInt8) : List (List UInt8) := laid bl30 2 5 a
theorem la_length (a : List UInt8) : (la a).length = 30 := laid_length _ _ _ _
theorem la_blank (a : List UInt8) (ha : a.length ≤ 400) (j : Nat) (h1 : 2 + nOf a ≤ j) (h2 : j < 30) : (la a)[j]? = some (List.replicate 64 0) := by
  have := nOf_eq' a
  rw [la, laid_get bl30 2 5 a (by show _ ≤ 30; omega) j (by omega), if_neg (by omega), bl30, List.getElem?_replicate, if_pos h2]

theorem one_a (s : List (List UInt8)) (a : List UInt8) (ha : a.length ≤ 400) (hl : s.length = 30) (hs : ∀ j, j < 2 + nOf a → s[j]? = (la a)[j]?) : oneOf s (2 : Nat) 30 5 = some a := by
  have hn1 := nOf_eq a
  have hn2 := nOf_eq' a
  refine one_at s 2 30 5 a (by omega) ?_ (by decide) (by rw [hl]; omega) fun j h1 h2 => ?_
  · rw [hs 2 (by omega), la, laid_head bl30 2 5 a (by decide)]
  · rw [hs (2 + j) (by omega), la, laid_get bl30 2 5 a (by show _ ≤ 30; omega) (2 + j) (by omega), if_pos (by omega)]
    congr 3; omega

theorem scan_a (s : List (List UInt8)) (a : List UInt8) (ha : a.length ≤ 400) (hl : s.length = 30) (hs : ∀ j, j < 2 + nOf a → s[j]? = (la a)[j]?) (hno : oneOf s ((2 + nOf a : Nat) : Int) 30 5 = none) :
    (scanOf s 30 5 31 2).1 = [a] := by
  have h1 := one_a s a ha hl hs
  rw [show ((2 : Nat) : Int) = 2 from rfl] at h1
  rw [scanOf_some h1, ← nOf_eq, show ((2 : Int) + (nOf a : Nat)) = ((2 + nOf a : Nat) : Int) by omega, scanOf_none hno]

theorem scan_ab (s : List (List UInt8)) (a b : List UInt8) (ha : a.length ≤ 400) (hb : b.length ≤ 400) (hl : s.length = 30) (hs : ∀ j, j < 2 + nOf a → s[j]? = (la a)[j]?)
    (hh : s[2 + nOf a]? = some (pad (head16 5 b))) (hj : ∀ j, 1 ≤ j → j < nOf b → s[2 + nOf a + j]? = some (pad (chunk b j))) (hz : s[2 + nOf a + nOf b]? = some (List.replicate 64 0)) :
    (scanOf s 30 5 31 2).1 = [a, b] := by
  have h1 := one_a s a ha hl hs
  rw [show ((2 : Nat) : Int) = 2 from rfl] at h1
  have hn1 := nOf_eq b
  have hn2 := nOf_eq' b
  have hn3 := nOf_eq' a
  have h2 : oneOf s ((2 + nOf a : Nat) : Int) 30 5 = some b := one_at s _ 30 5 b (by omega) (by rw [ofInt5]; exact hh) (by omega) (by rw [hl]; omega) hj
  have h3 : oneOf s ((2 + nOf a + nOf b : Nat) : Int) 30 5 = none := one_blank _ _ _ _ hz
  rw [scanOf_some h1, ← nOf_eq, show ((2 : Int) + (nOf a : Nat)) = ((2 + nOf a : Nat) : Int) by omega, scanOf_some h2, ← hn1,
    show (((2 + nOf a : Nat) : Int) + (nOf b : Nat)) = ((2 + nOf a + nOf b : Nat) : Int) by omega, scanOf_none h3]

/-- The sectors of a and then b. -/
theorem laid_ab (a b : List UInt8) (ha : a.length ≤ 400) (hb : b.length ≤ 400) : (scanOf (laid (la a) (2 + nOf a) 5 b) 30 5 31 2).1 = [a, b] := by
  have hn2 := nOf_eq' b
  have hn3 := nOf_eq' a
  have hll := la_length a
  have hget := laid_get (la a) (2 + nOf a) 5 b (by omega)
  refine scan_ab _ a b ha hb (by rw [laid_length, la_length]) (fun j hj => ?_) ?_ (fun j h1 h2 => ?_) ?_
  · rw [hget j (by omega), if_neg (by omega)]
  · rw [laid_head (la a) (2 + nOf a) 5 b (by omega), ofInt5]; rfl
  · rw [hget _ (by omega), if_pos (by omega)]
    congr 3; omega
  · rw [hget _ (by omega), if_neg (by omega)]
    exact la_blank a ha _ (by omega) (by omega)

theorem torn_plain (a b : List UInt8) (ha : a.length ≤ 400) (hb : b.length ≤ 400) (K : Nat) (torn at' : Int) (r : (Int × Int) × Dk) (hr : Laid (la a) (2 + nOf a) b r) :
    ((r.2.crash K torn at').scan 2 30 5).1 = [a, b] ∨ (r.1.2 ≠ 0 ∧ ((r.2.crash K torn at').scan 2 30 5).1 = [a]) := by
  have hn2 := nOf_eq' b
  have hn3 := nOf_eq' a
  have hll := la_length a
  cases hr with
  | all =>
    left
    show (scanOf (laid (la a) (2 + nOf a) 5 b) 30 5 ((laid (la a) (2 + nOf a) 5 b).length + 1) 2).1 = [a, b]
    rw [laid_length, la_length]
    exact laid_ab a b ha hb
  | @none x e l' ws h1 h2 h3 h4 h5 =>
    right
    refine ⟨h1, ?_⟩
    have hk := crashed_keep K torn at' (2 + nOf a) ws 0 l' h4
    show (scanOf (crashed K torn at' 0 l' ws) 30 5 ((crashed K torn at' 0 l' ws).length + 1) 2).1 = [a]
    have hl : (crashed K torn at' 0 l' ws).length = 30 := by rw [crashed_length, h2, hll]
    rw [hl]
    refine scan_a _ a ha hl (fun j hj => ?_) (one_blank _ _ _ _ ?_)
    · rw [hk j (by omega), h3 j (by omega)]
    · rw [hk _ (Nat.le_refl _), h3 _ (Nat.le_refl _)]
      exact la_blank a ha _ (Nat.le_refl _) (by omega)
  | @head x e h1 =>
    show (scanOf (crashStep K torn at' 0 (land (la a) (parts (2 + nOf a) b 1 (nOf b - 1))) (2 + nOf a, pad (head16 5 b))) 30 5 ((crashStep K torn at' 0 (land (la a) (parts (2 + nOf a) b 1 (nOf b - 1))) (2 + nOf a, pad (head16 5 b))).length + 1) 2).1 = [a, b] ∨
      (e ≠ 0 ∧ (scanOf (crashStep K torn at' 0 (land (la a) (parts (2 + nOf a) b 1 (nOf b - 1))) (2 + nOf a, pad (head16 5 b))) 30 5 ((crashStep K torn at' 0 (land (la a) (parts (2 + nOf a) b 1 (nOf b - 1))) (2 + nOf a, pad (head16 5 b))).length + 1) 2).1 = [a])
    have hpl : (land (la a) (parts (2 + nOf a) b 1 (nOf b - 1))).length = 30 := by rw [land_length, hll]
    have hget : ∀ j, (land (la a) (parts (2 + nOf a) b 1 (nOf b - 1)))[j]? = if 2 + nOf a + 1 ≤ j ∧ j < 2 + nOf a + 1 + (nOf b - 1) then some (pad (chunk b (j - (2 + nOf a)))) else (la a)[j]? :=
      fun j => land_parts (la a) (2 + nOf a) b 1 (nOf b - 1) j (by omega)
    rw [crashStep_length, hpl]
    have hn : (land (la a) (parts (2 + nOf a) b 1 (nOf b - 1)))[2 + nOf a]? = some (List.replicate 64 0) := by
      rw [hget, if_neg (by omega)]
      exact la_blank a ha _ (Nat.le_refl _) (by omega)
    -- whatever sector lies there
    have key : ∀ X : List UInt8, (oneOf ((land (la a) (parts (2 + nOf a) b 1 (nOf b - 1))).set (2 + nOf a) X) ((2 + nOf a : Nat) : Int) 30 5 = none ∨ X = pad (head16 5 b)) →
        (scanOf ((land (la a) (parts (2 + nOf a) b 1 (nOf b - 1))).set (2 + nOf a) X) 30 5 31 2).1 = [a, b] ∨ (e ≠ 0 ∧ (scanOf ((land (la a) (parts (2 + nOf a) b 1 (nOf b - 1))).set (2 + nOf a) X) 30 5 31 2).1 = [a]) := by
      intro X hX
      rcases hX with hX | rfl
      · right
        refine ⟨h1, scan_a _ a ha (by rw [List.length_set, hpl]) (fun j hj => ?_) hX⟩
        rw [List.getElem?_set_ne (by omega), hget, if_neg (by omega)]
      · left
        have e1 : (land (la a) (parts (2 + nOf a) b 1 (nOf b - 1))).set (2 + nOf a) (pad (head16 5 b)) = laid (la a) (2 + nOf a) 5 b := by
          rw [laid, land_snoc, ofInt5]; rfl
        rw [e1]
        exact laid_ab a b ha hb
    unfold crashStep
    split
    · refine key _ ?_
      simp only [hn, Option.getD_some]
      refine torn_head _ (2 + nOf a) b hb (partOf at') (by rw [List.getElem?_set_self (by omega)]; rfl) 30 (by omega) (by rw [List.length_set, hpl]; omega) fun j h1 h2 => ?_
      rw [List.getElem?_set_ne (by omega), hget, if_pos (by omega)]
      congr 3; omega
    · split
      · exact key _ (.inr rfl)
      · have e1 : land (la a) (parts (2 + nOf a) b 1 (nOf b - 1)) = (land (la a) (parts (2 + nOf a) b 1 (nOf b - 1))).set (2 + nOf a) (List.replicate 64 0) := by
          apply List.ext_getElem?
          intro j
          by_cases hj : 2 + nOf a = j
          · subst hj; rw [List.getElem?_set_self (by omega), hn]
          · rw [List.getElem?_set_ne hj]
        rw [e1]
        refine key _ (.inl (one_blank _ _ _ _ ?_))
        rw [List.getElem?_set_self (by omega)]

theorem Laid.loose {l : List (List UInt8)} {n : Nat} {b : List UInt8} {r : (Int × Int) × Dk} (h : Laid l n b r) (hb : b.length ≤ 400) : r.2.loose.length ≤ 10 := by
  have := nOf_eq' b
  cases h with
  | all => simp
  | none _ _ _ _ h => simp only; omega
  | head _ => simp
end Go.Ax

/- What the regions of some functions hand on. Printed by a program of mine (gen.py). -/
set_option linter.unusedVariables false
namespace Go.Ax
open Go Go.Proofs
/-! ### interregnum/interregnumlaw03.answers -/
noncomputable def O12 (i : Nat) : Array Oper := opsOf i (bodyOf Try.f12)
theorem s12 : bodyOf Try.f12 = (.seq (.region 0 (O12 0) false) (.seq (.region 1 (O12 1) false) (.seq (.region 2 (O12 2) false) (.seq (.region 3 (O12 3) false) (.seq (.region 4 (O12 4) false) .ret))))) := by kernel_rfl
theorem e12 : E0 12 = some ⟨45, [0], bodyOf Try.f12⟩ := by kernel_rfl
theorem r12_0 {β : Type} (call : CallF) (md : Bool) (n : Nat) (k : Ex → List AV → Heap → Option β) (h : Heap) :
    runK C0 call md 12 n (.region 0 (O12 0) false) k (st 45 []) h =
    k .normal (st 45 []) h
  := by kernel_rfl
theorem r12_1 {β : Type} (call : CallF) (md : Bool) (n : Nat) (k : Ex → List AV → Heap → Option β) (h : Heap) :
    runK C0 call md 12 n (.region 1 (O12 1) false) k (st 45 []) h =
    bnd2 (aCall call md (.fn (.func 13) []) [(.int .i64 6)] h) fun v1 h2 =>
    k .normal (st 45 [(1, v1)]) h2
  := by kernel_rfl
theorem r12_2 {β : Type} (call : CallF) (md : Bool) (n : Nat) (k : Ex → List AV → Heap → Option β) (x1 : AV) (h : Heap) :
    runK C0 call md 12 n (.region 2 (O12 2) false) k (st 45 [(1, x1)]) h =
    bnd2 (aRowLit tab 22 2 [(0, (.int .u8 104)), (1, (.int .u8 105))] h) fun v1 h2 =>
    bnd (aConv tab 22 22 v1 h2) fun v3 =>
    bnd2 (freezeA v3 h2) fun v4 h5 =>
    bnd2 (aCall call md (.fn (.func 14) []) [x1, (.int .i64 1), (.int .i64 6), (.int .i64 7), v4] h5) fun v6 h7 =>
    bnd (aExtract v6 0) fun v8 =>
    bnd (aExtract v6 1) fun v9 =>
    k .normal (st 45 [(1, x1), (2, v8), (3, v9)]) h7
  := by kernel_rfl
theorem r12_3 {β : Type} (call : CallF) (md : Bool) (n : Nat) (k : Ex → List AV → Heap → Option β) (x1 x2 x3 : AV) (h : Heap) :
    runK C0 call md 12 n (.region 3 (O12 3) false) k (st 45 [(1, x1), (2, x2), (3, x3)]) h =
    bnd2 (aCall call md (.fn (.func 15) []) [x1, (.int .i64 1), (.int .i64 6), (.int .i64 7)] h) fun v1 h2 =>
    bnd (aExtract v1 0) fun v3 =>
    bnd (aExtract v1 1) fun v4 =>
    k .normal (st 45 [(2, x2), (3, x3), (4, v3), (5, v4)]) h2
  := by kernel_rfl
def J12_4_10 {β : Type} (call : CallF) (md : Bool) (k : Ex → List AV → Heap → Option β) (x41 x43 : AV) (h : Heap) : Option β :=
    bnd (aPick x41 x43 (.bool false)) fun v1 =>
    k .normal (st 45 [(0, v1)]) h

theorem j12_4_10 {β : Type} (call : CallF) (md : Bool) (k : Ex → List AV → Heap → Option β) (x2 x3 x4 x5 x19 x20 x21 x22 x23 x24 x25 x26 x27 x28 x29 x30 x31 x32 x33 x34 x35 x36 x37 x38 x39 x40 x41 x42 x43 : AV) (h : Heap) :
    opsK C0 call md 12 (O12 4) ((O12 4).toList.drop 25) (st 45 [(2, x2), (3, x3), (4, x4), (5, x5), (19, x19), (20, x20), (21, x21), (22, x22), (23, x23), (24, x24), (25, x25), (26, x26), (27, x27), (28, x28), (29, x29), (30, x30), (31, x31), (32, x32), (33, x33), (34, x34), (35, x35), (36, x36), (37, x37), (38, x38), (39, x39), (40, x40), (41, x41), (42, x42), (43, x43)]) h (fun tm h => k .normal (clr (C0.keep 12 4) tm) h) = J12_4_10 call md k x41 x43 h := by kernel_rfl
def J12_4_9 {β : Type} (call : CallF) (md : Bool) (k : Ex → List AV → Heap → Option β) (x41 : AV) (h : Heap) : Option β :=
    onG true x41 (
      bnd2 (aCall call md (.fn (.func 45) []) [(.int .i64 2)] h) fun v3 h4 =>
      bnd (aBinC tab .eql 3 v3 (.int .i64 2) true) fun v5 =>
      J12_4_10 call md k x41 v5 h4) (
      J12_4_10 call md k x41 .skip h)

theorem g12_4_9 {β : Type} (call : CallF) (md : Bool) (kk : List AV → Heap → Option β) (x2 x3 x4 x5 x19 x20 x21 x22 x23 x24 x25 x26 x27 x28 x29 x30 x31 x32 x33 x34 x35 x36 x37 x38 x39 x40 x41 : AV) (h : Heap) :
    opsK C0 call md 12 (O12 4) (((O12 4).toList.drop 23).take 2) (st 45 [(2, x2), (3, x3), (4, x4), (5, x5), (19, x19), (20, x20), (21, x21), (22, x22), (23, x23), (24, x24), (25, x25), (26, x26), (27, x27), (28, x28), (29, x29), (30, x30), (31, x31), (32, x32), (33, x33), (34, x34), (35, x35), (36, x36), (37, x37), (38, x38), (39, x39), (40, x40), (41, x41)]) h kk =
    onG true x41 (
      bnd2 (aCall call md (.fn (.func 45) []) [(.int .i64 2)] h) fun v6 h7 =>
      bnd (aBinC tab .eql 3 v6 (.int .i64 2) true) fun v8 =>
      kk (st 45 [(2, x2), (3, x3), (4, x4), (5, x5), (19, x19), (20, x20), (21, x21), (22, x22), (23, x23), (24, x24), (25, x25), (26, x26), (27, x27), (28, x28), (29, x29), (30, x30), (31, x31), (32, x32), (33, x33), (34, x34), (35, x35), (36, x36), (37, x37), (38, x38), (39, x39), (40, x40), (41, x41), (42, v6), (43, v8)]) h7) (
      kk (st 45 [(2, x2), (3, x3), (4, x4), (5, x5), (19, x19), (20, x20), (21, x21), (22, x22), (23, x23), (24, x24), (25, x25), (26, x26), (27, x27), (28, x28), (29, x29), (30, x30), (31, x31), (32, x32), (33, x33), (34, x34), (35, x35), (36, x36), (37, x37), (38, x38), (39, x39), (40, x40), (41, x41), (42, .skip), (43, .skip)]) h)
  := by cases x41 with | bool b => (cases b <;> kernel_rfl) | _ => kernel_rfl
theorem j12_4_9 {β : Type} (call : CallF) (md : Bool) (k : Ex → List AV → Heap → Option β) (x2 x3 x4 x5 x19 x20 x21 x22 x23 x24 x25 x26 x27 x28 x29 x30 x31 x32 x33 x34 x35 x36 x37 x38 x39 x40 x41 : AV) (h : Heap) :
    opsK C0 call md 12 (O12 4) ((O12 4).toList.drop 23) (st 45 [(2, x2), (3, x3), (4, x4), (5, x5), (19, x19), (20, x20), (21, x21), (22, x22), (23, x23), (24, x24), (25, x25), (26, x26), (27, x27), (28, x28), (29, x29), (30, x30), (31, x31), (32, x32), (33, x33), (34, x34), (35, x35), (36, x36), (37, x37), (38, x38), (39, x39), (40, x40), (41, x41)]) h (fun tm h => k .normal (clr (C0.keep 12 4) tm) h) = J12_4_9 call md k x41 h := by
  have e : ((O12 4).toList.drop 23) = ((O12 4).toList.drop 23).take 2 ++ (O12 4).toList.drop 25 := by kernel_rfl
  rw [show opsK C0 call md 12 (O12 4) ((O12 4).toList.drop 23) = opsK C0 call md 12 (O12 4) (((O12 4).toList.drop 23).take 2 ++ (O12 4).toList.drop 25) from congrArg _ e]
  rw [opsK_append, g12_4_9]
  simp only [j12_4_10]
  rfl
def J12_4_8 {β : Type} (call : CallF) (md : Bool) (k : Ex → List AV → Heap → Option β) (x37 x39 : AV) (h : Heap) : Option β :=
    bnd (aPick x37 x39 (.bool false)) fun v9 =>
    J12_4_9 call md k v9 h

theorem g12_4_8 {β : Type} (call : CallF) (md : Bool) (kk : List AV → Heap → Option β) (x2 x3 x4 x5 x19 x20 x21 x22 x23 x24 x25 x26 x27 x28 x29 x30 x31 x32 x33 x34 x35 x36 x37 x38 x39 : AV) (h : Heap) :
    opsK C0 call md 12 (O12 4) (((O12 4).toList.drop 21).take 2) (st 45 [(2, x2), (3, x3), (4, x4), (5, x5), (19, x19), (20, x20), (21, x21), (22, x22), (23, x23), (24, x24), (25, x25), (26, x26), (27, x27), (28, x28), (29, x29), (30, x30), (31, x31), (32, x32), (33, x33), (34, x34), (35, x35), (36, x36), (37, x37), (38, x38), (39, x39)]) h kk =
    bnd (aPick x37 x39 (.bool false)) fun v10 =>
    kk (st 45 [(2, x2), (3, x3), (4, x4), (5, x5), (19, x19), (20, x20), (21, x21), (22, x22), (23, x23), (24, x24), (25, x25), (26, x26), (27, x27), (28, x28), (29, x29), (30, x30), (31, x31), (32, x32), (33, x33), (34, x34), (35, x35), (36, x36), (37, x37), (38, x38), (39, x39), (40, v10), (41, v10)]) h
  := by kernel_rfl
theorem j12_4_8 {β : Type} (call : CallF) (md : Bool) (k : Ex → List AV → Heap → Option β) (x2 x3 x4 x5 x19 x20 x21 x22 x23 x24 x25 x26 x27 x28 x29 x30 x31 x32 x33 x34 x35 x36 x37 x38 x39 : AV) (h : Heap) :
    opsK C0 call md 12 (O12 4) ((O12 4).toList.drop 21) (st 45 [(2, x2), (3, x3), (4, x4), (5, x5), (19, x19), (20, x20), (21, x21), (22, x22), (23, x23), (24, x24), (25, x25), (26, x26), (27, x27), (28, x28), (29, x29), (30, x30), (31, x31), (32, x32), (33, x33), (34, x34), (35, x35), (36, x36), (37, x37), (38, x38), (39, x39)]) h (fun tm h => k .normal (clr (C0.keep 12 4) tm) h) = J12_4_8 call md k x37 x39 h := by
  have e : ((O12 4).toList.drop 21) = ((O12 4).toList.drop 21).take 2 ++ (O12 4).toList.drop 23 := by kernel_rfl
  rw [show opsK C0 call md 12 (O12 4) ((O12 4).toList.drop 21) = opsK C0 call md 12 (O12 4) (((O12 4).toList.drop 21).take 2 ++ (O12 4).toList.drop 23) from congrArg _ e]
  rw [opsK_append, g12_4_8]
  simp only [j12_4_9]
  rfl
def J12_4_7 {β : Type} (call : CallF) (md : Bool) (k : Ex → List AV → Heap → Option β) (x5 x37 : AV) (h : Heap) : Option β :=
    onG true x37 (
      bnd (aBinC tab .eql 3 x5 (.int .i64 3) true) fun v11 =>
      J12_4_8 call md k x37 v11 h) (
      J12_4_8 call md k x37 .skip h)

theorem g12_4_7 {β : Type} (call : CallF) (md : Bool) (kk : List AV → Heap → Option β) (x2 x3 x4 x5 x19 x20 x21 x22 x23 x24 x25 x26 x27 x28 x29 x30 x31 x32 x33 x34 x35 x36 x37 : AV) (h : Heap) :
    opsK C0 call md 12 (O12 4) (((O12 4).toList.drop 19).take 2) (st 45 [(2, x2), (3, x3), (4, x4), (5, x5), (19, x19), (20, x20), (21, x21), (22, x22), (23, x23), (24, x24), (25, x25), (26, x26), (27, x27), (28, x28), (29, x29), (30, x30), (31, x31), (32, x32), (33, x33), (34, x34), (35, x35), (36, x36), (37, x37)]) h kk =
    onG true x37 (
      bnd (aBinC tab .eql 3 x5 (.int .i64 3) true) fun v12 =>
      kk (st 45 [(2, x2), (3, x3), (4, x4), (5, x5), (19, x19), (20, x20), (21, x21), (22, x22), (23, x23), (24, x24), (25, x25), (26, x26), (27, x27), (28, x28), (29, x29), (30, x30), (31, x31), (32, x32), (33, x33), (34, x34), (35, x35), (36, x36), (37, x37), (38, x5), (39, v12)]) h) (
      kk (st 45 [(2, x2), (3, x3), (4, x4), (5, x5), (19, x19), (20, x20), (21, x21), (22, x22), (23, x23), (24, x24), (25, x25), (26, x26), (27, x27), (28, x28), (29, x29), (30, x30), (31, x31), (32, x32), (33, x33), (34, x34), (35, x35), (36, x36), (37, x37), (38, .skip), (39, .skip)]) h)
  := by cases x37 with | bool b => (cases b <;> kernel_rfl) | _ => kernel_rfl
theorem j12_4_7 {β : Type} (call : CallF) (md : Bool) (k : Ex → List AV → Heap → Option β) (x2 x3 x4 x5 x19 x20 x21 x22 x23 x24 x25 x26 x27 x28 x29 x30 x31 x32 x33 x34 x35 x36 x37 : AV) (h : Heap) :
    opsK C0 call md 12 (O12 4) ((O12 4).toList.drop 19) (st 45 [(2, x2), (3, x3), (4, x4), (5, x5), (19, x19), (20, x20), (21, x21), (22, x22), (23, x23), (24, x24), (25, x25), (26, x26), (27, x27), (28, x28), (29, x29), (30, x30), (31, x31), (32, x32), (33, x33), (34, x34), (35, x35), (36, x36), (37, x37)]) h (fun tm h => k .normal (clr (C0.keep 12 4) tm) h) = J12_4_7 call md k x5 x37 h := by
  have e : ((O12 4).toList.drop 19) = ((O12 4).toList.drop 19).take 2 ++ (O12 4).toList.drop 21 := by kernel_rfl
  rw [show opsK C0 call md 12 (O12 4) ((O12 4).toList.drop 19) = opsK C0 call md 12 (O12 4) (((O12 4).toList.drop 19).take 2 ++ (O12 4).toList.drop 21) from congrArg _ e]
  rw [opsK_append, g12_4_7]
  simp only [j12_4_8]
  rfl
def J12_4_6 {β : Type} (call : CallF) (md : Bool) (k : Ex → List AV → Heap → Option β) (x5 x30 x35 : AV) (h : Heap) : Option β :=
    bnd (aPick x30 x35 (.bool false)) fun v13 =>
    J12_4_7 call md k x5 v13 h

theorem g12_4_6 {β : Type} (call : CallF) (md : Bool) (kk : List AV → Heap → Option β) (x2 x3 x4 x5 x19 x20 x21 x22 x23 x24 x25 x26 x27 x28 x29 x30 x31 x32 x33 x34 x35 : AV) (h : Heap) :
    opsK C0 call md 12 (O12 4) (((O12 4).toList.drop 17).take 2) (st 45 [(2, x2), (3, x3), (4, x4), (5, x5), (19, x19), (20, x20), (21, x21), (22, x22), (23, x23), (24, x24), (25, x25), (26, x26), (27, x27), (28, x28), (29, x29), (30, x30), (31, x31), (32, x32), (33, x33), (34, x34), (35, x35)]) h kk =
    bnd (aPick x30 x35 (.bool false)) fun v14 =>
    kk (st 45 [(2, x2), (3, x3), (4, x4), (5, x5), (19, x19), (20, x20), (21, x21), (22, x22), (23, x23), (24, x24), (25, x25), (26, x26), (27, x27), (28, x28), (29, x29), (30, x30), (31, x31), (32, x32), (33, x33), (34, x34), (35, x35), (36, v14), (37, v14)]) h
  := by kernel_rfl
theorem j12_4_6 {β : Type} (call : CallF) (md : Bool) (k : Ex → List AV → Heap → Option β) (x2 x3 x4 x5 x19 x20 x21 x22 x23 x24 x25 x26 x27 x28 x29 x30 x31 x32 x33 x34 x35 : AV) (h : Heap) :
    opsK C0 call md 12 (O12 4) ((O12 4).toList.drop 17) (st 45 [(2, x2), (3, x3), (4, x4), (5, x5), (19, x19), (20, x20), (21, x21), (22, x22), (23, x23), (24, x24), (25, x25), (26, x26), (27, x27), (28, x28), (29, x29), (30, x30), (31, x31), (32, x32), (33, x33), (34, x34), (35, x35)]) h (fun tm h => k .normal (clr (C0.keep 12 4) tm) h) = J12_4_6 call md k x5 x30 x35 h := by
  have e : ((O12 4).toList.drop 17) = ((O12 4).toList.drop 17).take 2 ++ (O12 4).toList.drop 19 := by kernel_rfl
  rw [show opsK C0 call md 12 (O12 4) ((O12 4).toList.drop 17) = opsK C0 call md 12 (O12 4) (((O12 4).toList.drop 17).take 2 ++ (O12 4).toList.drop 19) from congrArg _ e]
  rw [opsK_append, g12_4_6]
  simp only [j12_4_7]
  rfl
def J12_4_5 {β : Type} (call : CallF) (md : Bool) (k : Ex → List AV → Heap → Option β) (x4 x5 x30 : AV) (h : Heap) : Option β :=
    onG true x30 (
      bnd (aIndexAddr tab 30 x4 (.int .i64 0)) fun v15 =>
      bnd (aLoad tab 22 v15 h) fun v16 =>
      bnd (aConv tab 22 9 v16 h) fun v17 =>
      bnd (aBinC tab .eql 9 v17 (liftC (Go.Value.string {data := #[104, 105]})) true) fun v18 =>
      J12_4_6 call md k x5 x30 v18 h) (
      J12_4_6 call md k x5 x30 .skip h)

theorem g12_4_5 {β : Type} (call : CallF) (md : Bool) (kk : List AV → Heap → Option β) (x2 x3 x4 x5 x19 x20 x21 x22 x23 x24 x25 x26 x27 x28 x29 x30 : AV) (h : Heap) :
    opsK C0 call md 12 (O12 4) (((O12 4).toList.drop 12).take 5) (st 45 [(2, x2), (3, x3), (4, x4), (5, x5), (19, x19), (20, x20), (21, x21), (22, x22), (23, x23), (24, x24), (25, x25), (26, x26), (27, x27), (28, x28), (29, x29), (30, x30)]) h kk =
    onG true x30 (
      bnd (aIndexAddr tab 30 x4 (.int .i64 0)) fun v19 =>
      bnd (aLoad tab 22 v19 h) fun v20 =>
      bnd (aConv tab 22 9 v20 h) fun v21 =>
      bnd (aBinC tab .eql 9 v21 (liftC (Go.Value.string {data := #[104, 105]})) true) fun v22 =>
      kk (st 45 [(2, x2), (3, x3), (4, x4), (5, x5), (19, x19), (20, x20), (21, x21), (22, x22), (23, x23), (24, x24), (25, x25), (26, x26), (27, x27), (28, x28), (29, x29), (30, x30), (31, x4), (32, v19), (33, v20), (34, v21), (35, v22)]) h) (
      kk (st 45 [(2, x2), (3, x3), (4, x4), (5, x5), (19, x19), (20, x20), (21, x21), (22, x22), (23, x23), (24, x24), (25, x25), (26, x26), (27, x27), (28, x28), (29, x29), (30, x30), (31, .skip), (32, .skip), (33, .skip), (34, .skip), (35, .skip)]) h)
  := by cases x30 with | bool b => (cases b <;> kernel_rfl) | _ => kernel_rfl
theorem j12_4_5 {β : Type} (call : CallF) (md : Bool) (k : Ex → List AV → Heap → Option β) (x2 x3 x4 x5 x19 x20 x21 x22 x23 x24 x25 x26 x27 x28 x29 x30 : AV) (h : Heap) :
    opsK C0 call md 12 (O12 4) ((O12 4).toList.drop 12) (st 45 [(2, x2), (3, x3), (4, x4), (5, x5), (19, x19), (20, x20), (21, x21), (22, x22), (23, x23), (24, x24), (25, x25), (26, x26), (27, x27), (28, x28), (29, x29), (30, x30)]) h (fun tm h => k .normal (clr (C0.keep 12 4) tm) h) = J12_4_5 call md k x4 x5 x30 h := by
  have e : ((O12 4).toList.drop 12) = ((O12 4).toList.drop 12).take 5 ++ (O12 4).toList.drop 17 := by kernel_rfl
  rw [show opsK C0 call md 12 (O12 4) ((O12 4).toList.drop 12) = opsK C0 call md 12 (O12 4) (((O12 4).toList.drop 12).take 5 ++ (O12 4).toList.drop 17) from congrArg _ e]
  rw [opsK_append, g12_4_5]
  simp only [j12_4_6]
  rfl
def J12_4_4 {β : Type} (call : CallF) (md : Bool) (k : Ex → List AV → Heap → Option β) (x4 x5 x25 x28 : AV) (h : Heap) : Option β :=
    bnd (aPick x25 x28 (.bool false)) fun v23 =>
    J12_4_5 call md k x4 x5 v23 h

theorem g12_4_4 {β : Type} (call : CallF) (md : Bool) (kk : List AV → Heap → Option β) (x2 x3 x4 x5 x19 x20 x21 x22 x23 x24 x25 x26 x27 x28 : AV) (h : Heap) :
    opsK C0 call md 12 (O12 4) (((O12 4).toList.drop 10).take 2) (st 45 [(2, x2), (3, x3), (4, x4), (5, x5), (19, x19), (20, x20), (21, x21), (22, x22), (23, x23), (24, x24), (25, x25), (26, x26), (27, x27), (28, x28)]) h kk =
    bnd (aPick x25 x28 (.bool false)) fun v24 =>
    kk (st 45 [(2, x2), (3, x3), (4, x4), (5, x5), (19, x19), (20, x20), (21, x21), (22, x22), (23, x23), (24, x24), (25, x25), (26, x26), (27, x27), (28, x28), (29, v24), (30, v24)]) h
  := by kernel_rfl
theorem j12_4_4 {β : Type} (call : CallF) (md : Bool) (k : Ex → List AV → Heap → Option β) (x2 x3 x4 x5 x19 x20 x21 x22 x23 x24 x25 x26 x27 x28 : AV) (h : Heap) :
    opsK C0 call md 12 (O12 4) ((O12 4).toList.drop 10) (st 45 [(2, x2), (3, x3), (4, x4), (5, x5), (19, x19), (20, x20), (21, x21), (22, x22), (23, x23), (24, x24), (25, x25), (26, x26), (27, x27), (28, x28)]) h (fun tm h => k .normal (clr (C0.keep 12 4) tm) h) = J12_4_4 call md k x4 x5 x25 x28 h := by
  have e : ((O12 4).toList.drop 10) = ((O12 4).toList.drop 10).take 2 ++ (O12 4).toList.drop 12 := by kernel_rfl
  rw [show opsK C0 call md 12 (O12 4) ((O12 4).toList.drop 10) = opsK C0 call md 12 (O12 4) (((O12 4).toList.drop 10).take 2 ++ (O12 4).toList.drop 12) from congrArg _ e]
  rw [opsK_append, g12_4_4]
  simp only [j12_4_5]
  rfl
def J12_4_3 {β : Type} (call : CallF) (md : Bool) (k : Ex → List AV → Heap → Option β) (x4 x5 x25 : AV) (h : Heap) : Option β :=
    onG true x25 (
      bnd (aLen tab 30 x4) fun v25 =>
      bnd (aBinC tab .eql 3 v25 (.int .i64 1) true) fun v26 =>
      J12_4_4 call md k x4 x5 x25 v26 h) (
      J12_4_4 call md k x4 x5 x25 .skip h)

theorem g12_4_3 {β : Type} (call : CallF) (md : Bool) (kk : List AV → Heap → Option β) (x2 x3 x4 x5 x19 x20 x21 x22 x23 x24 x25 : AV) (h : Heap) :
    opsK C0 call md 12 (O12 4) (((O12 4).toList.drop 7).take 3) (st 45 [(2, x2), (3, x3), (4, x4), (5, x5), (19, x19), (20, x20), (21, x21), (22, x22), (23, x23), (24, x24), (25, x25)]) h kk =
    onG true x25 (
      bnd (aLen tab 30 x4) fun v27 =>
      bnd (aBinC tab .eql 3 v27 (.int .i64 1) true) fun v28 =>
      kk (st 45 [(2, x2), (3, x3), (4, x4), (5, x5), (19, x19), (20, x20), (21, x21), (22, x22), (23, x23), (24, x24), (25, x25), (26, x4), (27, v27), (28, v28)]) h) (
      kk (st 45 [(2, x2), (3, x3), (4, x4), (5, x5), (19, x19), (20, x20), (21, x21), (22, x22), (23, x23), (24, x24), (25, x25), (26, .skip), (27, .skip), (28, .skip)]) h)
  := by cases x25 with | bool b => (cases b <;> kernel_rfl) | _ => kernel_rfl
theorem j12_4_3 {β : Type} (call : CallF) (md : Bool) (k : Ex → List AV → Heap → Option β) (x2 x3 x4 x5 x19 x20 x21 x22 x23 x24 x25 : AV) (h : Heap) :
    opsK C0 call md 12 (O12 4) ((O12 4).toList.drop 7) (st 45 [(2, x2), (3, x3), (4, x4), (5, x5), (19, x19), (20, x20), (21, x21), (22, x22), (23, x23), (24, x24), (25, x25)]) h (fun tm h => k .normal (clr (C0.keep 12 4) tm) h) = J12_4_3 call md k x4 x5 x25 h := by
  have e : ((O12 4).toList.drop 7) = ((O12 4).toList.drop 7).take 3 ++ (O12 4).toList.drop 10 := by kernel_rfl
  rw [show opsK C0 call md 12 (O12 4) ((O12 4).toList.drop 7) = opsK C0 call md 12 (O12 4) (((O12 4).toList.drop 7).take 3 ++ (O12 4).toList.drop 10) from congrArg _ e]
  rw [opsK_append, g12_4_3]
  simp only [j12_4_4]
  rfl
def J12_4_2 {β : Type} (call : CallF) (md : Bool) (k : Ex → List AV → Heap → Option β) (x4 x5 x21 x23 : AV) (h : Heap) : Option β :=
    bnd (aPick x21 x23 (.bool false)) fun v29 =>
    J12_4_3 call md k x4 x5 v29 h

theorem g12_4_2 {β : Type} (call : CallF) (md : Bool) (kk : List AV → Heap → Option β) (x2 x3 x4 x5 x19 x20 x21 x22 x23 : AV) (h : Heap) :
    opsK C0 call md 12 (O12 4) (((O12 4).toList.drop 5).take 2) (st 45 [(2, x2), (3, x3), (4, x4), (5, x5), (19, x19), (20, x20), (21, x21), (22, x22), (23, x23)]) h kk =
    bnd (aPick x21 x23 (.bool false)) fun v30 =>
    kk (st 45 [(2, x2), (3, x3), (4, x4), (5, x5), (19, x19), (20, x20), (21, x21), (22, x22), (23, x23), (24, v30), (25, v30)]) h
  := by kernel_rfl
theorem j12_4_2 {β : Type} (call : CallF) (md : Bool) (k : Ex → List AV → Heap → Option β) (x2 x3 x4 x5 x19 x20 x21 x22 x23 : AV) (h : Heap) :
    opsK C0 call md 12 (O12 4) ((O12 4).toList.drop 5) (st 45 [(2, x2), (3, x3), (4, x4), (5, x5), (19, x19), (20, x20), (21, x21), (22, x22), (23, x23)]) h (fun tm h => k .normal (clr (C0.keep 12 4) tm) h) = J12_4_2 call md k x4 x5 x21 x23 h := by
  have e : ((O12 4).toList.drop 5) = ((O12 4).toList.drop 5).take 2 ++ (O12 4).toList.drop 7 := by kernel_rfl
  rw [show opsK C0 call md 12 (O12 4) ((O12 4).toList.drop 5) = opsK C0 call md 12 (O12 4) (((O12 4).toList.drop 5).take 2 ++ (O12 4).toList.drop 7) from congrArg _ e]
  rw [opsK_append, g12_4_2]
  simp only [j12_4_3]
  rfl
def J12_4_1 {β : Type} (call : CallF) (md : Bool) (k : Ex → List AV → Heap → Option β) (x3 x4 x5 x21 : AV) (h : Heap) : Option β :=
    onG true x21 (
      bnd (aBinC tab .eql 27 x3 (.int .i64 0) true) fun v31 =>
      J12_4_2 call md k x4 x5 x21 v31 h) (
      J12_4_2 call md k x4 x5 x21 .skip h)

theorem g12_4_1 {β : Type} (call : CallF) (md : Bool) (kk : List AV → Heap → Option β) (x2 x3 x4 x5 x19 x20 x21 : AV) (h : Heap) :
    opsK C0 call md 12 (O12 4) (((O12 4).toList.drop 3).take 2) (st 45 [(2, x2), (3, x3), (4, x4), (5, x5), (19, x19), (20, x20), (21, x21)]) h kk =
    onG true x21 (
      bnd (aBinC tab .eql 27 x3 (.int .i64 0) true) fun v32 =>
      kk (st 45 [(2, x2), (3, x3), (4, x4), (5, x5), (19, x19), (20, x20), (21, x21), (22, x3), (23, v32)]) h) (
      kk (st 45 [(2, x2), (3, x3), (4, x4), (5, x5), (19, x19), (20, x20), (21, x21), (22, .skip), (23, .skip)]) h)
  := by cases x21 with | bool b => (cases b <;> kernel_rfl) | _ => kernel_rfl
theorem j12_4_1 {β : Type} (call : CallF) (md : Bool) (k : Ex → List AV → Heap → Option β) (x2 x3 x4 x5 x19 x20 x21 : AV) (h : Heap) :
    opsK C0 call md 12 (O12 4) ((O12 4).toList.drop 3) (st 45 [(2, x2), (3, x3), (4, x4), (5, x5), (19, x19), (20, x20), (21, x21)]) h (fun tm h => k .normal (clr (C0.keep 12 4) tm) h) = J12_4_1 call md k x3 x4 x5 x21 h := by
  have e : ((O12 4).toList.drop 3) = ((O12 4).toList.drop 3).take 2 ++ (O12 4).toList.drop 5 := by kernel_rfl
  rw [show opsK C0 call md 12 (O12 4) ((O12 4).toList.drop 3) = opsK C0 call md 12 (O12 4) (((O12 4).toList.drop 3).take 2 ++ (O12 4).toList.drop 5) from congrArg _ e]
  rw [opsK_append, g12_4_1]
  simp only [j12_4_2]
  rfl
def J12_4_0 {β : Type} (call : CallF) (md : Bool) (k : Ex → List AV → Heap → Option β) (x2 x3 x4 x5 : AV) (h : Heap) : Option β :=
    bnd (aBinC tab .eql 3 x2 (.int .i64 3) true) fun v33 =>
    J12_4_1 call md k x3 x4 x5 v33 h

theorem g12_4_0 {β : Type} (call : CallF) (md : Bool) (kk : List AV → Heap → Option β) (x2 x3 x4 x5 : AV) (h : Heap) :
    opsK C0 call md 12 (O12 4) ((O12 4).toList.take 3) (st 45 [(2, x2), (3, x3), (4, x4), (5, x5)]) h kk =
    bnd (aBinC tab .eql 3 x2 (.int .i64 3) true) fun v34 =>
    kk (st 45 [(2, x2), (3, x3), (4, x4), (5, x5), (19, x2), (20, v34), (21, v34)]) h
  := by kernel_rfl
theorem j12_4_0 {β : Type} (call : CallF) (md : Bool) (k : Ex → List AV → Heap → Option β) (x2 x3 x4 x5 : AV) (h : Heap) :
    opsK C0 call md 12 (O12 4) (O12 4).toList (st 45 [(2, x2), (3, x3), (4, x4), (5, x5)]) h (fun tm h => k .normal (clr (C0.keep 12 4) tm) h) = J12_4_0 call md k x2 x3 x4 x5 h := by
  have e : (O12 4).toList = (O12 4).toList.take 3 ++ (O12 4).toList.drop 3 := by kernel_rfl
  rw [show opsK C0 call md 12 (O12 4) (O12 4).toList = opsK C0 call md 12 (O12 4) ((O12 4).toList.take 3 ++ (O12 4).toList.drop 3) from congrArg _ e]
  rw [opsK_append, g12_4_0]
  simp only [j12_4_1]
  rfl
theorem r12_4 {β : Type} (call : CallF) (md : Bool) (n : Nat) (k : Ex → List AV → Heap → Option β) (x2 x3 x4 x5 : AV) (h : Heap) :
    runK C0 call md 12 n (.region 4 (O12 4) false) k (st 45 [(2, x2), (3, x3), (4, x4), (5, x5)]) h = J12_4_0 call md k x2 x3 x4 x5 h := (runK_region C0 call md 12 n 4 (O12 4) k (st 45 [(2, x2), (3, x3), (4, x4), (5, x5)]) h).trans (j12_4_0 call md k x2 x3 x4 x5 h)
end Go.Ax

/- law 3's answers: true. -/
namespace Go.Ax
open Go Go.Proofs

theorem new_calm (n : Int) : Dk.new n = Calm (List.replicate (newN n) (List.replicate 64 0)) := rfl

theorem rowlit_hi (h : Heap) : aRowLit tab 22 2 [(0, .int .u8 104), (1, .int .u8 105)] h = some (.msl h.length [] 5 0 2, h ++ [.row 5 [U8 104, U8 105]]) := by kernel_rfl
theorem conv_hi (h : Heap) : aConv tab 22 22 (.msl h.length [] 5 0 2) (h ++ [.row 5 [U8 104, U8 105]]) = some (.msl h.length [] 5 0 2) := by
  simp [aConv]
theorem frz_hi (h : Heap) : freezeA (.msl h.length [] 5 0 2) (h ++ [.row 5 [U8 104, U8 105]]) = some (.vsl 5 [U8 104, U8 105] .none, h ++ [.dead]) := by
  simp [freezeA]

theorem idx30_0 {S : Obs} {h : Heap} {x : AV} {l : List UInt8} (a : ApR S h x [l]) : ∃ v, aIndexAddr tab 30 x (.int .i64 0) = some (.vptr 22 v) ∧ Bs v l := a.rw.idx (i := 0) rfl

def hi : List UInt8 := [104, 105]
theorem hi_bs : Bs (.vsl 5 [U8 104, U8 105] .none) hi := .inr ⟨_, rfl⟩
theorem str_hi : (⟨hi.toArray⟩ : ByteArray).toList = hi := by rw [ByteArray.toList_eq]
theorem lift_hi : liftC (Go.Value.string {data := #[104, 105]}) = .str ⟨hi.toArray⟩ := rfl

theorem lay_hi : (Dk.new 6).lay 1 6 7 hi = ((3, 0), Calm (laid (List.replicate 6 (List.replicate 64 0)) 1 7 hi)) := by
  have := lay_calm (List.replicate 6 (List.replicate 64 0)) 1 6 7 hi (by decide) (by decide) (by decide) (by decide) (by decide)
  exact this
theorem scan_hi : (Calm (laid (List.replicate 6 (List.replicate 64 0)) 1 7 hi)).scan 1 6 7 = ([hi], 3) := by
  have := scan_one (List.replicate 6 (List.replicate 64 0)) 1 6 7 hi (by decide) (by decide) (by rfl)
  rw [Dk.scan, show (Calm (laid (List.replicate 6 (List.replicate 64 0)) 1 7 hi)).lasts.length + 1 = (List.replicate 6 (List.replicate 64 (0 : UInt8))).length + 1 from by rw [show (Calm (laid (List.replicate 6 (List.replicate 64 0)) 1 7 hi)).lasts = laid (List.replicate 6 (List.replicate 64 0)) 1 7 hi from rfl, laid_length]]
  exact this

theorem answers_ok (h : Heap) (k : Nat) (hk : 9100 < k) : ∃ h', exFn C0 E0 (k + 1) false 12 [] h = some (.bool true, h') ∧ Keep (From h.length) h h' := by
  obtain ⟨k, rfl⟩ : ∃ j, k = j + 1 := ⟨k - 1, by omega⟩
  have up := Up.fresh h
  obtain ⟨p, r, h1, n1, D1, k1⟩ := new_ok 6 h false k
  have k2 : Keep (From h1.length) h1 (h1 ++ [.dead]) := Keep.app h1 _ (Up.fresh h1)
  have up2 := (up.keep k1).keep k2
  obtain ⟨h3, l1, D3, k3⟩ := lay_ok (D1.fresh k2) up2 (by decide) (by decide) 1 6 7 (by decide) hi_bs (by decide) k (by simp [Dk.new]; omega)
  rw [lay_hi] at l1 D3
  obtain ⟨x, h4, s1, s2, k4⟩ := scan_ok D3 (by decide) 1 6 7 k (by simp [Calm]; omega)
  rw [scan_hi] at s1 s2
  obtain ⟨v, iv, bv⟩ := idx30_0 s2
  have kk := (((k1.trans (k2.up (up.keep k1))).trans k3).fresh k4 up)
  have sz := size_ok 2 (by decide) false h4 k
  have c1 : decide (sizeOf 2 = 2) = true := by decide
  have c2 : decide ((3 : Int) = 3) = true := by decide
  have c3 : decide ((0 : Int) = 0) = true := by decide
  have c4 : decide ((([hi] : List (List UInt8)).length : Int) = 1) = true := by decide
  have c5 : (hi == hi) = true := by decide
  refine ⟨h4, exFn_of e12 ?_, kk⟩
  rw [fnK, show (([] : List AV) ++ List.replicate (45 - ([] : List AV).length) AV.undef) = st 45 [] from rfl, s12]
  simp -implicitDefEqProofs only [↓runK_seq, runK_seq, ↓runK_cond, runK_cond, ↓runK_block, runK_block, ↓runK_loop, runK_loop, ↓runK_skip, runK_skip, ↓runK_ret, runK_ret, ↓runK_exit, runK_exit, ↓seqE_n, seqE_n, ↓seqE_e, seqE_e, ↓seqE_r, seqE_r, ↓blkE_n, blkE_n, ↓blkE_e, blkE_e, ↓blkE_r, blkE_r, ↓retK_n, retK_n, ↓retK_r, retK_r, ↓aCall_fn, aCall_fn, ↓bnd_s, bnd_s, ↓bnd2_s, bnd2_s, ↓onB_t, onB_t, ↓onB_f, onB_f, ↓onG_tt, onG_tt, ↓onG_tf, onG_tf, ↓onG_ft, onG_ft, ↓onG_ff, onG_ff, ↓onG_s, onG_s, ↓onT_t, onT_t, ↓aPick_t, aPick_t, ↓aPick_f, aPick_f, decide_true, decide_false, st_tmp, results1, results2, List.lookup_cons, List.lookup_nil, Nat.reduceBEq, Bool.false_eq_true, ↓reduceIte, BEq.rfl, Nat.reduceLT, Option.getD_some, Option.getD_none, ↓r12_0, r12_0, ↓r12_1, r12_1, ↓r12_2, r12_2, ↓r12_3, r12_3, ↓r12_4, r12_4, J12_4_0, J12_4_1, J12_4_2, J12_4_3, J12_4_4, J12_4_5, J12_4_6, J12_4_7, J12_4_8, J12_4_9, J12_4_10, n1, rowlit_hi, conv_hi, frz_hi, l1, ext0, ext1, s1, bin_eql, c2, c3, s2.rw.len, c4, iv, load22, bv.str, lift_hi, str_eql, str_hi, c5, sz, c1]
end Go.Ax

/- What the regions of some functions hand on. Printed by a program of mine (gen.py). -/
set_option linter.unusedVariables false
namespace Go.Ax
open Go Go.Proofs
/-! ### interregnum/interregnumlaw03.RegionOther -/
noncomputable def O3 (i : Nat) : Array Oper := opsOf i (bodyOf Try.f3)
theorem s3 : bodyOf Try.f3 = (.seq (.region 0 (O3 0) false) (.seq (.seq (.region 1 (O3 1) false) (.cond (Go.Operand.tmp 21) (.seq (.region 2 (O3 2) false) .ret) .skip)) (.seq (.region 3 (O3 3) false) (.seq (.region 4 (O3 4) false) (.seq (.region 5 (O3 5) false) (.seq (.region 6 (O3 6) false) (.seq (.region 7 (O3 7) false) .ret))))))) := by kernel_rfl
theorem e3 : E0 3 = some ⟨71, [6], bodyOf Try.f3⟩ := by kernel_rfl
theorem r3_0 {β : Type} (call : CallF) (md : Bool) (n : Nat) (k : Ex → List AV → Heap → Option β) (x0 x1 x2 : AV) (h : Heap) :
    runK C0 call md 3 n (.region 0 (O3 0) false) k (st 71 [(0, x0), (1, x1), (2, x2)]) h =
    k .normal (st 71 [(0, x0), (1, x1), (2, x2)]) h
  := by kernel_rfl
def J3_1_2 {β : Type} (call : CallF) (md : Bool) (k : Ex → List AV → Heap → Option β) (x0 x1 x2 x17 x20 : AV) (h : Heap) : Option β :=
    bnd (aPick x17 (.bool true) x20) fun v1 =>
    k .normal (st 71 [(0, x0), (1, x1), (2, x2), (21, v1)]) h

theorem j3_1_2 {β : Type} (call : CallF) (md : Bool) (k : Ex → List AV → Heap → Option β) (x0 x1 x2 x14 x15 x16 x17 x18 x19 x20 : AV) (h : Heap) :
    opsK C0 call md 3 (O3 1) ((O3 1).toList.drop 7) (st 71 [(0, x0), (1, x1), (2, x2), (14, x14), (15, x15), (16, x16), (17, x17), (18, x18), (19, x19), (20, x20)]) h (fun tm h => k .normal (clr (C0.keep 3 1) tm) h) = J3_1_2 call md k x0 x1 x2 x17 x20 h := by kernel_rfl
def J3_1_1 {β : Type} (call : CallF) (md : Bool) (k : Ex → List AV → Heap → Option β) (x0 x1 x2 x17 : AV) (h : Heap) : Option β :=
    onG false x17 (
      bnd (aBinC tab .eql 23 x1 x2 false) fun v3 =>
      J3_1_2 call md k x0 x1 x2 x17 v3 h) (
      J3_1_2 call md k x0 x1 x2 x17 .skip h)

theorem g3_1_1 {β : Type} (call : CallF) (md : Bool) (kk : List AV → Heap → Option β) (x0 x1 x2 x14 x15 x16 x17 : AV) (h : Heap) :
    opsK C0 call md 3 (O3 1) (((O3 1).toList.drop 4).take 3) (st 71 [(0, x0), (1, x1), (2, x2), (14, x14), (15, x15), (16, x16), (17, x17)]) h kk =
    onG false x17 (
      bnd (aBinC tab .eql 23 x1 x2 false) fun v4 =>
      kk (st 71 [(0, x0), (1, x1), (2, x2), (14, x14), (15, x15), (16, x16), (17, x17), (18, x1), (19, x2), (20, v4)]) h) (
      kk (st 71 [(0, x0), (1, x1), (2, x2), (14, x14), (15, x15), (16, x16), (17, x17), (18, .skip), (19, .skip), (20, .skip)]) h)
  := by cases x17 with | bool b => (cases b <;> kernel_rfl) | _ => kernel_rfl
theorem j3_1_1 {β : Type} (call : CallF) (md : Bool) (k : Ex → List AV → Heap → Option β) (x0 x1 x2 x14 x15 x16 x17 : AV) (h : Heap) :
    opsK C0 call md 3 (O3 1) ((O3 1).toList.drop 4) (st 71 [(0, x0), (1, x1), (2, x2), (14, x14), (15, x15), (16, x16), (17, x17)]) h (fun tm h => k .normal (clr (C0.keep 3 1) tm) h) = J3_1_1 call md k x0 x1 x2 x17 h := by
  have e : ((O3 1).toList.drop 4) = ((O3 1).toList.drop 4).take 3 ++ (O3 1).toList.drop 7 := by kernel_rfl
  rw [show opsK C0 call md 3 (O3 1) ((O3 1).toList.drop 4) = opsK C0 call md 3 (O3 1) (((O3 1).toList.drop 4).take 3 ++ (O3 1).toList.drop 7) from congrArg _ e]
  rw [opsK_append, g3_1_1]
  simp only [j3_1_2]
  rfl
def J3_1_0 {β : Type} (call : CallF) (md : Bool) (k : Ex → List AV → Heap → Option β) (x0 x1 x2 : AV) (h : Heap) : Option β :=
    bnd (aLen tab 22 x0) fun v5 =>
    bnd (aBinC tab .gtr 3 v5 (.int .i64 400) true) fun v6 =>
    J3_1_1 call md k x0 x1 x2 v6 h

theorem g3_1_0 {β : Type} (call : CallF) (md : Bool) (kk : List AV → Heap → Option β) (x0 x1 x2 : AV) (h : Heap) :
    opsK C0 call md 3 (O3 1) ((O3 1).toList.take 4) (st 71 [(0, x0), (1, x1), (2, x2)]) h kk =
    bnd (aLen tab 22 x0) fun v7 =>
    bnd (aBinC tab .gtr 3 v7 (.int .i64 400) true) fun v8 =>
    kk (st 71 [(0, x0), (1, x1), (2, x2), (14, x0), (15, v7), (16, v8), (17, v8)]) h
  := by kernel_rfl
theorem j3_1_0 {β : Type} (call : CallF) (md : Bool) (k : Ex → List AV → Heap → Option β) (x0 x1 x2 : AV) (h : Heap) :
    opsK C0 call md 3 (O3 1) (O3 1).toList (st 71 [(0, x0), (1, x1), (2, x2)]) h (fun tm h => k .normal (clr (C0.keep 3 1) tm) h) = J3_1_0 call md k x0 x1 x2 h := by
  have e : (O3 1).toList = (O3 1).toList.take 4 ++ (O3 1).toList.drop 4 := by kernel_rfl
  rw [show opsK C0 call md 3 (O3 1) (O3 1).toList = opsK C0 call md 3 (O3 1) ((O3 1).toList.take 4 ++ (O3 1).toList.drop 4) from congrArg _ e]
  rw [opsK_append, g3_1_0]
  simp only [j3_1_1]
  rfl
theorem r3_1 {β : Type} (call : CallF) (md : Bool) (n : Nat) (k : Ex → List AV → Heap → Option β) (x0 x1 x2 : AV) (h : Heap) :
    runK C0 call md 3 n (.region 1 (O3 1) false) k (st 71 [(0, x0), (1, x1), (2, x2)]) h = J3_1_0 call md k x0 x1 x2 h := (runK_region C0 call md 3 n 1 (O3 1) k (st 71 [(0, x0), (1, x1), (2, x2)]) h).trans (j3_1_0 call md k x0 x1 x2 h)
theorem r3_2 {β : Type} (call : CallF) (md : Bool) (n : Nat) (k : Ex → List AV → Heap → Option β) (x0 x1 x2 x21 : AV) (h : Heap) :
    runK C0 call md 3 n (.region 2 (O3 2) false) k (st 71 [(0, x0), (1, x1), (2, x2), (21, x21)]) h =
    bnd2 (aCall call md (.fn (.func 12) []) [] h) fun v1 h2 =>
    k .normal (st 71 [(6, v1)]) h2
  := by kernel_rfl
theorem r3_3 {β : Type} (call : CallF) (md : Bool) (n : Nat) (k : Ex → List AV → Heap → Option β) (x0 x1 x2 x21 : AV) (h : Heap) :
    runK C0 call md 3 n (.region 3 (O3 3) false) k (st 71 [(0, x0), (1, x1), (2, x2), (21, x21)]) h =
    bnd2 (aCall call md (.fn (.func 13) []) [(.int .i64 20)] h) fun v1 h2 =>
    k .normal (st 71 [(0, x0), (1, x1), (2, x2), (7, v1)]) h2
  := by kernel_rfl
theorem r3_4 {β : Type} (call : CallF) (md : Bool) (n : Nat) (k : Ex → List AV → Heap → Option β) (x0 x1 x2 x7 : AV) (h : Heap) :
    runK C0 call md 3 n (.region 4 (O3 4) false) k (st 71 [(0, x0), (1, x1), (2, x2), (7, x7)]) h =
    bnd (aConv tab 23 3 x1 h) fun v1 =>
    bnd2 (aCall call md (.fn (.func 14) []) [x7, (.int .i64 0), (.int .i64 20), v1, x0] h) fun v2 h3 =>
    bnd (aExtract v2 0) fun v4 =>
    bnd (aExtract v2 1) fun v5 =>
    k .normal (st 71 [(0, x0), (1, x1), (2, x2), (7, x7), (8, v4), (9, v5)]) h3
  := by kernel_rfl
theorem r3_5 {β : Type} (call : CallF) (md : Bool) (n : Nat) (k : Ex → List AV → Heap → Option β) (x0 x1 x2 x7 x8 x9 : AV) (h : Heap) :
    runK C0 call md 3 n (.region 5 (O3 5) false) k (st 71 [(0, x0), (1, x1), (2, x2), (7, x7), (8, x8), (9, x9)]) h =
    bnd (aConv tab 23 3 x2 h) fun v1 =>
    bnd2 (aCall call md (.fn (.func 15) []) [x7, (.int .i64 0), (.int .i64 20), v1] h) fun v2 h3 =>
    bnd (aExtract v2 0) fun v4 =>
    bnd (aExtract v2 1) fun v5 =>
    k .normal (st 71 [(0, x0), (1, x1), (7, x7), (8, x8), (9, x9), (10, v4), (11, v5)]) h3
  := by kernel_rfl
theorem r3_6 {β : Type} (call : CallF) (md : Bool) (n : Nat) (k : Ex → List AV → Heap → Option β) (x0 x1 x7 x8 x9 x10 x11 : AV) (h : Heap) :
    runK C0 call md 3 n (.region 6 (O3 6) false) k (st 71 [(0, x0), (1, x1), (7, x7), (8, x8), (9, x9), (10, x10), (11, x11)]) h =
    bnd (aConv tab 23 3 x1 h) fun v1 =>
    bnd2 (aCall call md (.fn (.func 15) []) [x7, (.int .i64 0), (.int .i64 20), v1] h) fun v2 h3 =>
    bnd (aExtract v2 0) fun v4 =>
    bnd (aExtract v2 1) fun v5 =>
    k .normal (st 71 [(0, x0), (8, x8), (9, x9), (10, x10), (11, x11), (12, v4), (13, v5)]) h3
  := by kernel_rfl
def J3_7_10 {β : Type} (call : CallF) (md : Bool) (k : Ex → List AV → Heap → Option β) (x66 x69 : AV) (h : Heap) : Option β :=
    bnd (aPick x66 x69 (.bool false)) fun v1 =>
    k .normal (st 71 [(6, v1)]) h

theorem j3_7_10 {β : Type} (call : CallF) (md : Bool) (k : Ex → List AV → Heap → Option β) (x0 x8 x9 x10 x11 x12 x13 x46 x47 x48 x49 x50 x51 x52 x53 x54 x55 x56 x57 x58 x59 x60 x61 x62 x63 x64 x65 x66 x67 x68 x69 : AV) (h : Heap) :
    opsK C0 call md 3 (O3 7) ((O3 7).toList.drop 24) (st 71 [(0, x0), (8, x8), (9, x9), (10, x10), (11, x11), (12, x12), (13, x13), (46, x46), (47, x47), (48, x48), (49, x49), (50, x50), (51, x51), (52, x52), (53, x53), (54, x54), (55, x55), (56, x56), (57, x57), (58, x58), (59, x59), (60, x60), (61, x61), (62, x62), (63, x63), (64, x64), (65, x65), (66, x66), (67, x67), (68, x68), (69, x69)]) h (fun tm h => k .normal (clr (C0.keep 3 7) tm) h) = J3_7_10 call md k x66 x69 h := by kernel_rfl
def J3_7_9 {β : Type} (call : CallF) (md : Bool) (k : Ex → List AV → Heap → Option β) (x8 x13 x66 : AV) (h : Heap) : Option β :=
    onG true x66 (
      bnd (aBinC tab .eql 3 x13 x8 false) fun v3 =>
      J3_7_10 call md k x66 v3 h) (
      J3_7_10 call md k x66 .skip h)

theorem g3_7_9 {β : Type} (call : CallF) (md : Bool) (kk : List AV → Heap → Option β) (x0 x8 x9 x10 x11 x12 x13 x46 x47 x48 x49 x50 x51 x52 x53 x54 x55 x56 x57 x58 x59 x60 x61 x62 x63 x64 x65 x66 : AV) (h : Heap) :
    opsK C0 call md 3 (O3 7) (((O3 7).toList.drop 21).take 3) (st 71 [(0, x0), (8, x8), (9, x9), (10, x10), (11, x11), (12, x12), (13, x13), (46, x46), (47, x47), (48, x48), (49, x49), (50, x50), (51, x51), (52, x52), (53, x53), (54, x54), (55, x55), (56, x56), (57, x57), (58, x58), (59, x59), (60, x60), (61, x61), (62, x62), (63, x63), (64, x64), (65, x65), (66, x66)]) h kk =
    onG true x66 (
      bnd (aBinC tab .eql 3 x13 x8 false) fun v4 =>
      kk (st 71 [(0, x0), (8, x8), (9, x9), (10, x10), (11, x11), (12, x12), (13, x13), (46, x46), (47, x47), (48, x48), (49, x49), (50, x50), (51, x51), (52, x52), (53, x53), (54, x54), (55, x55), (56, x56), (57, x57), (58, x58), (59, x59), (60, x60), (61, x61), (62, x62), (63, x63), (64, x64), (65, x65), (66, x66), (67, x13), (68, x8), (69, v4)]) h) (
      kk (st 71 [(0, x0), (8, x8), (9, x9), (10, x10), (11, x11), (12, x12), (13, x13), (46, x46), (47, x47), (48, x48), (49, x49), (50, x50), (51, x51), (52, x52), (53, x53), (54, x54), (55, x55), (56, x56), (57, x57), (58, x58), (59, x59), (60, x60), (61, x61), (62, x62), (63, x63), (64, x64), (65, x65), (66, x66), (67, .skip), (68, .skip), (69, .skip)]) h)
  := by cases x66 with | bool b => (cases b <;> kernel_rfl) | _ => kernel_rfl
theorem j3_7_9 {β : Type} (call : CallF) (md : Bool) (k : Ex → List AV → Heap → Option β) (x0 x8 x9 x10 x11 x12 x13 x46 x47 x48 x49 x50 x51 x52 x53 x54 x55 x56 x57 x58 x59 x60 x61 x62 x63 x64 x65 x66 : AV) (h : Heap) :
    opsK C0 call md 3 (O3 7) ((O3 7).toList.drop 21) (st 71 [(0, x0), (8, x8), (9, x9), (10, x10), (11, x11), (12, x12), (13, x13), (46, x46), (47, x47), (48, x48), (49, x49), (50, x50), (51, x51), (52, x52), (53, x53), (54, x54), (55, x55), (56, x56), (57, x57), (58, x58), (59, x59), (60, x60), (61, x61), (62, x62), (63, x63), (64, x64), (65, x65), (66, x66)]) h (fun tm h => k .normal (clr (C0.keep 3 7) tm) h) = J3_7_9 call md k x8 x13 x66 h := by
  have e : ((O3 7).toList.drop 21) = ((O3 7).toList.drop 21).take 3 ++ (O3 7).toList.drop 24 := by kernel_rfl
  rw [show opsK C0 call md 3 (O3 7) ((O3 7).toList.drop 21) = opsK C0 call md 3 (O3 7) (((O3 7).toList.drop 21).take 3 ++ (O3 7).toList.drop 24) from congrArg _ e]
  rw [opsK_append, g3_7_9]
  simp only [j3_7_10]
  rfl
def J3_7_8 {β : Type} (call : CallF) (md : Bool) (k : Ex → List AV → Heap → Option β) (x8 x13 x60 x64 : AV) (h : Heap) : Option β :=
    bnd (aPick x60 x64 (.bool false)) fun v5 =>
    J3_7_9 call md k x8 x13 v5 h

theorem g3_7_8 {β : Type} (call : CallF) (md : Bool) (kk : List AV → Heap → Option β) (x0 x8 x9 x10 x11 x12 x13 x46 x47 x48 x49 x50 x51 x52 x53 x54 x55 x56 x57 x58 x59 x60 x61 x62 x63 x64 : AV) (h : Heap) :
    opsK C0 call md 3 (O3 7) (((O3 7).toList.drop 19).take 2) (st 71 [(0, x0), (8, x8), (9, x9), (10, x10), (11, x11), (12, x12), (13, x13), (46, x46), (47, x47), (48, x48), (49, x49), (50, x50), (51, x51), (52, x52), (53, x53), (54, x54), (55, x55), (56, x56), (57, x57), (58, x58), (59, x59), (60, x60), (61, x61), (62, x62), (63, x63), (64, x64)]) h kk =
    bnd (aPick x60 x64 (.bool false)) fun v6 =>
    kk (st 71 [(0, x0), (8, x8), (9, x9), (10, x10), (11, x11), (12, x12), (13, x13), (46, x46), (47, x47), (48, x48), (49, x49), (50, x50), (51, x51), (52, x52), (53, x53), (54, x54), (55, x55), (56, x56), (57, x57), (58, x58), (59, x59), (60, x60), (61, x61), (62, x62), (63, x63), (64, x64), (65, v6), (66, v6)]) h
  := by kernel_rfl
theorem j3_7_8 {β : Type} (call : CallF) (md : Bool) (k : Ex → List AV → Heap → Option β) (x0 x8 x9 x10 x11 x12 x13 x46 x47 x48 x49 x50 x51 x52 x53 x54 x55 x56 x57 x58 x59 x60 x61 x62 x63 x64 : AV) (h : Heap) :
    opsK C0 call md 3 (O3 7) ((O3 7).toList.drop 19) (st 71 [(0, x0), (8, x8), (9, x9), (10, x10), (11, x11), (12, x12), (13, x13), (46, x46), (47, x47), (48, x48), (49, x49), (50, x50), (51, x51), (52, x52), (53, x53), (54, x54), (55, x55), (56, x56), (57, x57), (58, x58), (59, x59), (60, x60), (61, x61), (62, x62), (63, x63), (64, x64)]) h (fun tm h => k .normal (clr (C0.keep 3 7) tm) h) = J3_7_8 call md k x8 x13 x60 x64 h := by
  have e : ((O3 7).toList.drop 19) = ((O3 7).toList.drop 19).take 2 ++ (O3 7).toList.drop 21 := by kernel_rfl
  rw [show opsK C0 call md 3 (O3 7) ((O3 7).toList.drop 19) = opsK C0 call md 3 (O3 7) (((O3 7).toList.drop 19).take 2 ++ (O3 7).toList.drop 21) from congrArg _ e]
  rw [opsK_append, g3_7_8]
  simp only [j3_7_9]
  rfl
def J3_7_7 {β : Type} (call : CallF) (md : Bool) (k : Ex → List AV → Heap → Option β) (x0 x8 x12 x13 x60 : AV) (h : Heap) : Option β :=
    onG true x60 (
      bnd (aLit tab 30 1 [(0, x0)]) fun v7 =>
      bnd2 (aCall call md (.fn (.func 16) []) [x12, v7] h) fun v8 h9 =>
      J3_7_8 call md k x8 x13 x60 v8 h9) (
      J3_7_8 call md k x8 x13 x60 .skip h)

theorem g3_7_7 {β : Type} (call : CallF) (md : Bool) (kk : List AV → Heap → Option β) (x0 x8 x9 x10 x11 x12 x13 x46 x47 x48 x49 x50 x51 x52 x53 x54 x55 x56 x57 x58 x59 x60 : AV) (h : Heap) :
    opsK C0 call md 3 (O3 7) (((O3 7).toList.drop 15).take 4) (st 71 [(0, x0), (8, x8), (9, x9), (10, x10), (11, x11), (12, x12), (13, x13), (46, x46), (47, x47), (48, x48), (49, x49), (50, x50), (51, x51), (52, x52), (53, x53), (54, x54), (55, x55), (56, x56), (57, x57), (58, x58), (59, x59), (60, x60)]) h kk =
    onG true x60 (
      bnd (aLit tab 30 1 [(0, x0)]) fun v10 =>
      bnd2 (aCall call md (.fn (.func 16) []) [x12, v10] h) fun v11 h12 =>
      kk (st 71 [(0, x0), (8, x8), (9, x9), (10, x10), (11, x11), (12, x12), (13, x13), (46, x46), (47, x47), (48, x48), (49, x49), (50, x50), (51, x51), (52, x52), (53, x53), (54, x54), (55, x55), (56, x56), (57, x57), (58, x58), (59, x59), (60, x60), (61, x12), (62, x0), (63, v10), (64, v11)]) h12) (
      kk (st 71 [(0, x0), (8, x8), (9, x9), (10, x10), (11, x11), (12, x12), (13, x13), (46, x46), (47, x47), (48, x48), (49, x49), (50, x50), (51, x51), (52, x52), (53, x53), (54, x54), (55, x55), (56, x56), (57, x57), (58, x58), (59, x59), (60, x60), (61, .skip), (62, .skip), (63, .skip), (64, .skip)]) h)
  := by cases x60 with | bool b => (cases b <;> kernel_rfl) | _ => kernel_rfl
theorem j3_7_7 {β : Type} (call : CallF) (md : Bool) (k : Ex → List AV → Heap → Option β) (x0 x8 x9 x10 x11 x12 x13 x46 x47 x48 x49 x50 x51 x52 x53 x54 x55 x56 x57 x58 x59 x60 : AV) (h : Heap) :
    opsK C0 call md 3 (O3 7) ((O3 7).toList.drop 15) (st 71 [(0, x0), (8, x8), (9, x9), (10, x10), (11, x11), (12, x12), (13, x13), (46, x46), (47, x47), (48, x48), (49, x49), (50, x50), (51, x51), (52, x52), (53, x53), (54, x54), (55, x55), (56, x56), (57, x57), (58, x58), (59, x59), (60, x60)]) h (fun tm h => k .normal (clr (C0.keep 3 7) tm) h) = J3_7_7 call md k x0 x8 x12 x13 x60 h := by
  have e : ((O3 7).toList.drop 15) = ((O3 7).toList.drop 15).take 4 ++ (O3 7).toList.drop 19 := by kernel_rfl
  rw [show opsK C0 call md 3 (O3 7) ((O3 7).toList.drop 15) = opsK C0 call md 3 (O3 7) (((O3 7).toList.drop 15).take 4 ++ (O3 7).toList.drop 19) from congrArg _ e]
  rw [opsK_append, g3_7_7]
  simp only [j3_7_8]
  rfl
def J3_7_6 {β : Type} (call : CallF) (md : Bool) (k : Ex → List AV → Heap → Option β) (x0 x8 x12 x13 x56 x58 : AV) (h : Heap) : Option β :=
    bnd (aPick x56 x58 (.bool false)) fun v13 =>
    J3_7_7 call md k x0 x8 x12 x13 v13 h

theorem g3_7_6 {β : Type} (call : CallF) (md : Bool) (kk : List AV → Heap → Option β) (x0 x8 x9 x10 x11 x12 x13 x46 x47 x48 x49 x50 x51 x52 x53 x54 x55 x56 x57 x58 : AV) (h : Heap) :
    opsK C0 call md 3 (O3 7) (((O3 7).toList.drop 13).take 2) (st 71 [(0, x0), (8, x8), (9, x9), (10, x10), (11, x11), (12, x12), (13, x13), (46, x46), (47, x47), (48, x48), (49, x49), (50, x50), (51, x51), (52, x52), (53, x53), (54, x54), (55, x55), (56, x56), (57, x57), (58, x58)]) h kk =
    bnd (aPick x56 x58 (.bool false)) fun v14 =>
    kk (st 71 [(0, x0), (8, x8), (9, x9), (10, x10), (11, x11), (12, x12), (13, x13), (46, x46), (47, x47), (48, x48), (49, x49), (50, x50), (51, x51), (52, x52), (53, x53), (54, x54), (55, x55), (56, x56), (57, x57), (58, x58), (59, v14), (60, v14)]) h
  := by kernel_rfl
theorem j3_7_6 {β : Type} (call : CallF) (md : Bool) (k : Ex → List AV → Heap → Option β) (x0 x8 x9 x10 x11 x12 x13 x46 x47 x48 x49 x50 x51 x52 x53 x54 x55 x56 x57 x58 : AV) (h : Heap) :
    opsK C0 call md 3 (O3 7) ((O3 7).toList.drop 13) (st 71 [(0, x0), (8, x8), (9, x9), (10, x10), (11, x11), (12, x12), (13, x13), (46, x46), (47, x47), (48, x48), (49, x49), (50, x50), (51, x51), (52, x52), (53, x53), (54, x54), (55, x55), (56, x56), (57, x57), (58, x58)]) h (fun tm h => k .normal (clr (C0.keep 3 7) tm) h) = J3_7_6 call md k x0 x8 x12 x13 x56 x58 h := by
  have e : ((O3 7).toList.drop 13) = ((O3 7).toList.drop 13).take 2 ++ (O3 7).toList.drop 15 := by kernel_rfl
  rw [show opsK C0 call md 3 (O3 7) ((O3 7).toList.drop 13) = opsK C0 call md 3 (O3 7) (((O3 7).toList.drop 13).take 2 ++ (O3 7).toList.drop 15) from congrArg _ e]
  rw [opsK_append, g3_7_6]
  simp only [j3_7_7]
  rfl
def J3_7_5 {β : Type} (call : CallF) (md : Bool) (k : Ex → List AV → Heap → Option β) (x0 x8 x11 x12 x13 x56 : AV) (h : Heap) : Option β :=
    onG true x56 (
      bnd (aBinC tab .eql 3 x11 (.int .i64 0) true) fun v15 =>
      J3_7_6 call md k x0 x8 x12 x13 x56 v15 h) (
      J3_7_6 call md k x0 x8 x12 x13 x56 .skip h)

theorem g3_7_5 {β : Type} (call : CallF) (md : Bool) (kk : List AV → Heap → Option β) (x0 x8 x9 x10 x11 x12 x13 x46 x47 x48 x49 x50 x51 x52 x53 x54 x55 x56 : AV) (h : Heap) :
    opsK C0 call md 3 (O3 7) (((O3 7).toList.drop 11).take 2) (st 71 [(0, x0), (8, x8), (9, x9), (10, x10), (11, x11), (12, x12), (13, x13), (46, x46), (47, x47), (48, x48), (49, x49), (50, x50), (51, x51), (52, x52), (53, x53), (54, x54), (55, x55), (56, x56)]) h kk =
    onG true x56 (
      bnd (aBinC tab .eql 3 x11 (.int .i64 0) true) fun v16 =>
      kk (st 71 [(0, x0), (8, x8), (9, x9), (10, x10), (11, x11), (12, x12), (13, x13), (46, x46), (47, x47), (48, x48), (49, x49), (50, x50), (51, x51), (52, x52), (53, x53), (54, x54), (55, x55), (56, x56), (57, x11), (58, v16)]) h) (
      kk (st 71 [(0, x0), (8, x8), (9, x9), (10, x10), (11, x11), (12, x12), (13, x13), (46, x46), (47, x47), (48, x48), (49, x49), (50, x50), (51, x51), (52, x52), (53, x53), (54, x54), (55, x55), (56, x56), (57, .skip), (58, .skip)]) h)
  := by cases x56 with | bool b => (cases b <;> kernel_rfl) | _ => kernel_rfl
theorem j3_7_5 {β : Type} (call : CallF) (md : Bool) (k : Ex → List AV → Heap → Option β) (x0 x8 x9 x10 x11 x12 x13 x46 x47 x48 x49 x50 x51 x52 x53 x54 x55 x56 : AV) (h : Heap) :
    opsK C0 call md 3 (O3 7) ((O3 7).toList.drop 11) (st 71 [(0, x0), (8, x8), (9, x9), (10, x10), (11, x11), (12, x12), (13, x13), (46, x46), (47, x47), (48, x48), (49, x49), (50, x50), (51, x51), (52, x52), (53, x53), (54, x54), (55, x55), (56, x56)]) h (fun tm h => k .normal (clr (C0.keep 3 7) tm) h) = J3_7_5 call md k x0 x8 x11 x12 x13 x56 h := by
  have e : ((O3 7).toList.drop 11) = ((O3 7).toList.drop 11).take 2 ++ (O3 7).toList.drop 13 := by kernel_rfl
  rw [show opsK C0 call md 3 (O3 7) ((O3 7).toList.drop 11) = opsK C0 call md 3 (O3 7) (((O3 7).toList.drop 11).take 2 ++ (O3 7).toList.drop 13) from congrArg _ e]
  rw [opsK_append, g3_7_5]
  simp only [j3_7_6]
  rfl
def J3_7_4 {β : Type} (call : CallF) (md : Bool) (k : Ex → List AV → Heap → Option β) (x0 x8 x11 x12 x13 x51 x54 : AV) (h : Heap) : Option β :=
    bnd (aPick x51 x54 (.bool false)) fun v17 =>
    J3_7_5 call md k x0 x8 x11 x12 x13 v17 h

theorem g3_7_4 {β : Type} (call : CallF) (md : Bool) (kk : List AV → Heap → Option β) (x0 x8 x9 x10 x11 x12 x13 x46 x47 x48 x49 x50 x51 x52 x53 x54 : AV) (h : Heap) :
    opsK C0 call md 3 (O3 7) (((O3 7).toList.drop 9).take 2) (st 71 [(0, x0), (8, x8), (9, x9), (10, x10), (11, x11), (12, x12), (13, x13), (46, x46), (47, x47), (48, x48), (49, x49), (50, x50), (51, x51), (52, x52), (53, x53), (54, x54)]) h kk =
    bnd (aPick x51 x54 (.bool false)) fun v18 =>
    kk (st 71 [(0, x0), (8, x8), (9, x9), (10, x10), (11, x11), (12, x12), (13, x13), (46, x46), (47, x47), (48, x48), (49, x49), (50, x50), (51, x51), (52, x52), (53, x53), (54, x54), (55, v18), (56, v18)]) h
  := by kernel_rfl
theorem j3_7_4 {β : Type} (call : CallF) (md : Bool) (k : Ex → List AV → Heap → Option β) (x0 x8 x9 x10 x11 x12 x13 x46 x47 x48 x49 x50 x51 x52 x53 x54 : AV) (h : Heap) :
    opsK C0 call md 3 (O3 7) ((O3 7).toList.drop 9) (st 71 [(0, x0), (8, x8), (9, x9), (10, x10), (11, x11), (12, x12), (13, x13), (46, x46), (47, x47), (48, x48), (49, x49), (50, x50), (51, x51), (52, x52), (53, x53), (54, x54)]) h (fun tm h => k .normal (clr (C0.keep 3 7) tm) h) = J3_7_4 call md k x0 x8 x11 x12 x13 x51 x54 h := by
  have e : ((O3 7).toList.drop 9) = ((O3 7).toList.drop 9).take 2 ++ (O3 7).toList.drop 11 := by kernel_rfl
  rw [show opsK C0 call md 3 (O3 7) ((O3 7).toList.drop 9) = opsK C0 call md 3 (O3 7) (((O3 7).toList.drop 9).take 2 ++ (O3 7).toList.drop 11) from congrArg _ e]
  rw [opsK_append, g3_7_4]
  simp only [j3_7_5]
  rfl
def J3_7_3 {β : Type} (call : CallF) (md : Bool) (k : Ex → List AV → Heap → Option β) (x0 x8 x10 x11 x12 x13 x51 : AV) (h : Heap) : Option β :=
    onG true x51 (
      bnd (aLen tab 30 x10) fun v19 =>
      bnd (aBinC tab .eql 3 v19 (.int .i64 0) true) fun v20 =>
      J3_7_4 call md k x0 x8 x11 x12 x13 x51 v20 h) (
      J3_7_4 call md k x0 x8 x11 x12 x13 x51 .skip h)

theorem g3_7_3 {β : Type} (call : CallF) (md : Bool) (kk : List AV → Heap → Option β) (x0 x8 x9 x10 x11 x12 x13 x46 x47 x48 x49 x50 x51 : AV) (h : Heap) :
    opsK C0 call md 3 (O3 7) (((O3 7).toList.drop 6).take 3) (st 71 [(0, x0), (8, x8), (9, x9), (10, x10), (11, x11), (12, x12), (13, x13), (46, x46), (47, x47), (48, x48), (49, x49), (50, x50), (51, x51)]) h kk =
    onG true x51 (
      bnd (aLen tab 30 x10) fun v21 =>
      bnd (aBinC tab .eql 3 v21 (.int .i64 0) true) fun v22 =>
      kk (st 71 [(0, x0), (8, x8), (9, x9), (10, x10), (11, x11), (12, x12), (13, x13), (46, x46), (47, x47), (48, x48), (49, x49), (50, x50), (51, x51), (52, x10), (53, v21), (54, v22)]) h) (
      kk (st 71 [(0, x0), (8, x8), (9, x9), (10, x10), (11, x11), (12, x12), (13, x13), (46, x46), (47, x47), (48, x48), (49, x49), (50, x50), (51, x51), (52, .skip), (53, .skip), (54, .skip)]) h)
  := by cases x51 with | bool b => (cases b <;> kernel_rfl) | _ => kernel_rfl
theorem j3_7_3 {β : Type} (call : CallF) (md : Bool) (k : Ex → List AV → Heap → Option β) (x0 x8 x9 x10 x11 x12 x13 x46 x47 x48 x49 x50 x51 : AV) (h : Heap) :
    opsK C0 call md 3 (O3 7) ((O3 7).toList.drop 6) (st 71 [(0, x0), (8, x8), (9, x9), (10, x10), (11, x11), (12, x12), (13, x13), (46, x46), (47, x47), (48, x48), (49, x49), (50, x50), (51, x51)]) h (fun tm h => k .normal (clr (C0.keep 3 7) tm) h) = J3_7_3 call md k x0 x8 x10 x11 x12 x13 x51 h := by
  have e : ((O3 7).toList.drop 6) = ((O3 7).toList.drop 6).take 3 ++ (O3 7).toList.drop 9 := by kernel_rfl
  rw [show opsK C0 call md 3 (O3 7) ((O3 7).toList.drop 6) = opsK C0 call md 3 (O3 7) (((O3 7).toList.drop 6).take 3 ++ (O3 7).toList.drop 9) from congrArg _ e]
  rw [opsK_append, g3_7_3]
  simp only [j3_7_4]
  rfl
def J3_7_2 {β : Type} (call : CallF) (md : Bool) (k : Ex → List AV → Heap → Option β) (x0 x8 x10 x11 x12 x13 x47 x49 : AV) (h : Heap) : Option β :=
    bnd (aPick x47 x49 (.bool false)) fun v23 =>
    J3_7_3 call md k x0 x8 x10 x11 x12 x13 v23 h

theorem g3_7_2 {β : Type} (call : CallF) (md : Bool) (kk : List AV → Heap → Option β) (x0 x8 x9 x10 x11 x12 x13 x46 x47 x48 x49 : AV) (h : Heap) :
    opsK C0 call md 3 (O3 7) (((O3 7).toList.drop 4).take 2) (st 71 [(0, x0), (8, x8), (9, x9), (10, x10), (11, x11), (12, x12), (13, x13), (46, x46), (47, x47), (48, x48), (49, x49)]) h kk =
    bnd (aPick x47 x49 (.bool false)) fun v24 =>
    kk (st 71 [(0, x0), (8, x8), (9, x9), (10, x10), (11, x11), (12, x12), (13, x13), (46, x46), (47, x47), (48, x48), (49, x49), (50, v24), (51, v24)]) h
  := by kernel_rfl
theorem j3_7_2 {β : Type} (call : CallF) (md : Bool) (k : Ex → List AV → Heap → Option β) (x0 x8 x9 x10 x11 x12 x13 x46 x47 x48 x49 : AV) (h : Heap) :
    opsK C0 call md 3 (O3 7) ((O3 7).toList.drop 4) (st 71 [(0, x0), (8, x8), (9, x9), (10, x10), (11, x11), (12, x12), (13, x13), (46, x46), (47, x47), (48, x48), (49, x49)]) h (fun tm h => k .normal (clr (C0.keep 3 7) tm) h) = J3_7_2 call md k x0 x8 x10 x11 x12 x13 x47 x49 h := by
  have e : ((O3 7).toList.drop 4) = ((O3 7).toList.drop 4).take 2 ++ (O3 7).toList.drop 6 := by kernel_rfl
  rw [show opsK C0 call md 3 (O3 7) ((O3 7).toList.drop 4) = opsK C0 call md 3 (O3 7) (((O3 7).toList.drop 4).take 2 ++ (O3 7).toList.drop 6) from congrArg _ e]
  rw [opsK_append, g3_7_2]
  simp only [j3_7_3]
  rfl
def J3_7_1 {β : Type} (call : CallF) (md : Bool) (k : Ex → List AV → Heap → Option β) (x0 x8 x9 x10 x11 x12 x13 x47 : AV) (h : Heap) : Option β :=
    onG true x47 (
      bnd (aBinC tab .eql 27 x9 (.int .i64 0) true) fun v25 =>
      J3_7_2 call md k x0 x8 x10 x11 x12 x13 x47 v25 h) (
      J3_7_2 call md k x0 x8 x10 x11 x12 x13 x47 .skip h)

theorem g3_7_1 {β : Type} (call : CallF) (md : Bool) (kk : List AV → Heap → Option β) (x0 x8 x9 x10 x11 x12 x13 x46 x47 : AV) (h : Heap) :
    opsK C0 call md 3 (O3 7) (((O3 7).toList.drop 2).take 2) (st 71 [(0, x0), (8, x8), (9, x9), (10, x10), (11, x11), (12, x12), (13, x13), (46, x46), (47, x47)]) h kk =
    onG true x47 (
      bnd (aBinC tab .eql 27 x9 (.int .i64 0) true) fun v26 =>
      kk (st 71 [(0, x0), (8, x8), (9, x9), (10, x10), (11, x11), (12, x12), (13, x13), (46, x46), (47, x47), (48, x9), (49, v26)]) h) (
      kk (st 71 [(0, x0), (8, x8), (9, x9), (10, x10), (11, x11), (12, x12), (13, x13), (46, x46), (47, x47), (48, .skip), (49, .skip)]) h)
  := by cases x47 with | bool b => (cases b <;> kernel_rfl) | _ => kernel_rfl
theorem j3_7_1 {β : Type} (call : CallF) (md : Bool) (k : Ex → List AV → Heap → Option β) (x0 x8 x9 x10 x11 x12 x13 x46 x47 : AV) (h : Heap) :
    opsK C0 call md 3 (O3 7) ((O3 7).toList.drop 2) (st 71 [(0, x0), (8, x8), (9, x9), (10, x10), (11, x11), (12, x12), (13, x13), (46, x46), (47, x47)]) h (fun tm h => k .normal (clr (C0.keep 3 7) tm) h) = J3_7_1 call md k x0 x8 x9 x10 x11 x12 x13 x47 h := by
  have e : ((O3 7).toList.drop 2) = ((O3 7).toList.drop 2).take 2 ++ (O3 7).toList.drop 4 := by kernel_rfl
  rw [show opsK C0 call md 3 (O3 7) ((O3 7).toList.drop 2) = opsK C0 call md 3 (O3 7) (((O3 7).toList.drop 2).take 2 ++ (O3 7).toList.drop 4) from congrArg _ e]
  rw [opsK_append, g3_7_1]
  simp only [j3_7_2]
  rfl
def J3_7_0 {β : Type} (call : CallF) (md : Bool) (k : Ex → List AV → Heap → Option β) (x0 x8 x9 x10 x11 x12 x13 : AV) (h : Heap) : Option β :=
    bnd2 (aCall call md (.fn (.func 12) []) [] h) fun v27 h28 =>
    J3_7_1 call md k x0 x8 x9 x10 x11 x12 x13 v27 h28

theorem g3_7_0 {β : Type} (call : CallF) (md : Bool) (kk : List AV → Heap → Option β) (x0 x8 x9 x10 x11 x12 x13 : AV) (h : Heap) :
    opsK C0 call md 3 (O3 7) ((O3 7).toList.take 2) (st 71 [(0, x0), (8, x8), (9, x9), (10, x10), (11, x11), (12, x12), (13, x13)]) h kk =
    bnd2 (aCall call md (.fn (.func 12) []) [] h) fun v29 h30 =>
    kk (st 71 [(0, x0), (8, x8), (9, x9), (10, x10), (11, x11), (12, x12), (13, x13), (46, v29), (47, v29)]) h30
  := by kernel_rfl
theorem j3_7_0 {β : Type} (call : CallF) (md : Bool) (k : Ex → List AV → Heap → Option β) (x0 x8 x9 x10 x11 x12 x13 : AV) (h : Heap) :
    opsK C0 call md 3 (O3 7) (O3 7).toList (st 71 [(0, x0), (8, x8), (9, x9), (10, x10), (11, x11), (12, x12), (13, x13)]) h (fun tm h => k .normal (clr (C0.keep 3 7) tm) h) = J3_7_0 call md k x0 x8 x9 x10 x11 x12 x13 h := by
  have e : (O3 7).toList = (O3 7).toList.take 2 ++ (O3 7).toList.drop 2 := by kernel_rfl
  rw [show opsK C0 call md 3 (O3 7) (O3 7).toList = opsK C0 call md 3 (O3 7) ((O3 7).toList.take 2 ++ (O3 7).toList.drop 2) from congrArg _ e]
  rw [opsK_append, g3_7_0]
  simp only [j3_7_1]
  rfl
theorem r3_7 {β : Type} (call : CallF) (md : Bool) (n : Nat) (k : Ex → List AV → Heap → Option β) (x0 x8 x9 x10 x11 x12 x13 : AV) (h : Heap) :
    runK C0 call md 3 n (.region 7 (O3 7) false) k (st 71 [(0, x0), (8, x8), (9, x9), (10, x10), (11, x11), (12, x12), (13, x13)]) h = J3_7_0 call md k x0 x8 x9 x10 x11 x12 x13 h := (runK_region C0 call md 3 n 7 (O3 7) k (st 71 [(0, x0), (8, x8), (9, x9), (10, x10), (11, x11), (12, x12), (13, x13)]) h).trans (j3_7_0 call md k x0 x8 x9 x10 x11 x12 x13 h)
end Go.Ax

/- RegionOther: its run comes to true. -/
namespace Go.Ax
open Go Go.Proofs

theorem conv_16 (g : Nat) (hg : g < 65536) (h : Heap) : aConv tab 23 3 (.int .u16 g) h = some (.int .i64 g) := by
  simp [aConv]
  exact wrap_i64 (by omega) (by omega)

theorem ofInt_ne {g o : Nat} (hg : g < 65536) (ho : o < 65536) (h : g ≠ o) : BitVec.ofInt 32 (g : Int) ≠ BitVec.ofInt 32 (o : Int) := by
  intro e
  apply h
  have := congrArg BitVec.toNat e
  simpa [Nat.mod_eq_of_lt (show g < 4294967296 by omega), Nat.mod_eq_of_lt (show o < 4294967296 by omega)] using this

theorem rw_one {x : AV} {b : List UInt8} (hx : Bs x b) : Rw (.vsl 22 [x] .exact) [b] := .inr ⟨_, _, rfl, .cons hx .nil⟩

theorem other_ok (h : Heap) {x : AV} {b : List UInt8} (hx : Bs x b) (g o : Nat) (hg : g < 65536) (ho : o < 65536) (k : Nat) (hk : 9200 < k) :
    ∃ h', exFn C0 E0 (k + 1) false 3 [x, .int .u16 g, .int .u16 o] h = some (.bool true, h') := by
  obtain ⟨k, rfl⟩ : ∃ j, k = j + 1 := ⟨k - 1, by omega⟩
  have n0 : ([x, .int .u16 g, .int .u16 o] ++ List.replicate (71 - [x, AV.int .u16 g, .int .u16 o].length) AV.undef) = st 71 [(0, x), (1, .int .u16 g), (2, .int .u16 o)] := rfl
  obtain ⟨ha, a1, ka⟩ := answers_ok h k (by omega)
  by_cases q1 : 400 < b.length
  · have e1 : decide ((400 : Int) < (b.length : Nat)) = true := decide_eq_true (by omega)
    refine ⟨ha, exFn_of e3 ?_⟩
    rw [fnK, n0, s3]
    simp -implicitDefEqProofs only [↓runK_seq, runK_seq, ↓runK_cond, runK_cond, ↓runK_block, runK_block, ↓runK_loop, runK_loop, ↓runK_skip, runK_skip, ↓runK_ret, runK_ret, ↓runK_exit, runK_exit, ↓seqE_n, seqE_n, ↓seqE_e, seqE_e, ↓seqE_r, seqE_r, ↓blkE_n, blkE_n, ↓blkE_e, blkE_e, ↓blkE_r, blkE_r, ↓retK_n, retK_n, ↓retK_r, retK_r, ↓aCall_fn, aCall_fn, ↓bnd_s, bnd_s, ↓bnd2_s, bnd2_s, ↓onB_t, onB_t, ↓onB_f, onB_f, ↓onG_tt, onG_tt, ↓onG_tf, onG_tf, ↓onG_ft, onG_ft, ↓onG_ff, onG_ff, ↓onG_s, onG_s, ↓onT_t, onT_t, ↓aPick_t, aPick_t, ↓aPick_f, aPick_f, decide_true, decide_false, st_tmp, results1, results2, List.lookup_cons, List.lookup_nil, Nat.reduceBEq, Bool.false_eq_true, ↓reduceIte, BEq.rfl, Nat.reduceLT, Option.getD_some, Option.getD_none, ↓r3_0, r3_0, ↓r3_1, r3_1, J3_1_0, J3_1_1, J3_1_2, ↓r3_2, r3_2, ↓r3_3, r3_3, ↓r3_4, r3_4, ↓r3_5, r3_5, ↓r3_6, r3_6, ↓r3_7, r3_7, J3_7_0, J3_7_1, J3_7_2, J3_7_3, J3_7_4, J3_7_5, J3_7_6, J3_7_7, J3_7_8, J3_7_9, J3_7_10, hx.len, bin_gtr, e1, a1]
  have e1 : decide ((400 : Int) < (b.length : Nat)) = false := decide_eq_false (by omega)
  by_cases q2 : g = o
  · have e2 : decide ((g : Int) = (o : Int)) = true := decide_eq_true (by omega)
    refine ⟨ha, exFn_of e3 ?_⟩
    rw [fnK, n0, s3]
    simp -implicitDefEqProofs only [↓runK_seq, runK_seq, ↓runK_cond, runK_cond, ↓runK_block, runK_block, ↓runK_loop, runK_loop, ↓runK_skip, runK_skip, ↓runK_ret, runK_ret, ↓runK_exit, runK_exit, ↓seqE_n, seqE_n, ↓seqE_e, seqE_e, ↓seqE_r, seqE_r, ↓blkE_n, blkE_n, ↓blkE_e, blkE_e, ↓blkE_r, blkE_r, ↓retK_n, retK_n, ↓retK_r, retK_r, ↓aCall_fn, aCall_fn, ↓bnd_s, bnd_s, ↓bnd2_s, bnd2_s, ↓onB_t, onB_t, ↓onB_f, onB_f, ↓onG_tt, onG_tt, ↓onG_tf, onG_tf, ↓onG_ft, onG_ft, ↓onG_ff, onG_ff, ↓onG_s, onG_s, ↓onT_t, onT_t, ↓aPick_t, aPick_t, ↓aPick_f, aPick_f, decide_true, decide_false, st_tmp, results1, results2, List.lookup_cons, List.lookup_nil, Nat.reduceBEq, Bool.false_eq_true, ↓reduceIte, BEq.rfl, Nat.reduceLT, Option.getD_some, Option.getD_none, ↓r3_0, r3_0, ↓r3_1, r3_1, J3_1_0, J3_1_1, J3_1_2, ↓r3_2, r3_2, ↓r3_3, r3_3, ↓r3_4, r3_4, ↓r3_5, r3_5, ↓r3_6, r3_6, ↓r3_7, r3_7, J3_7_0, J3_7_1, J3_7_2, J3_7_3, J3_7_4, J3_7_5, J3_7_6, J3_7_7, J3_7_8, J3_7_9, J3_7_10, hx.len, bin_gtr, e1, bin_eql, e2, a1]
  have e2 : decide ((g : Int) = (o : Int)) = false := decide_eq_false (by omega)
  clear a1 ka ha
  have up := Up.fresh h
  have hn := nOf_eq b
  have hn2 := nOf_eq' b
  obtain ⟨p, r, h1, n1, D1, k1⟩ := new_ok 20 h false k
  have up1 := up.keep k1
  have la := lay_calm (List.replicate 20 (List.replicate 64 0)) 0 20 g b (by omega) (by omega) (by omega) (by decide) (by rw [List.length_replicate]; omega)
  obtain ⟨h2, l1, D2, k2⟩ := lay_ok D1 up1 (by decide) (by decide) 0 20 g (by decide) hx (by omega) k (by simp [Dk.new]; omega)
  have la' : (Dk.new 20).lay 0 20 g b = ((((0 + nOf b : Nat) : Int), 0), Calm (laid (List.replicate 20 (List.replicate 64 0)) 0 g b)) := la
  rw [la', Nat.zero_add] at l1
  rw [la'] at D2
  have so := scan_other (List.replicate 20 (List.replicate 64 0)) 0 20 g o b (by decide) (ofInt_ne hg ho q2) 20
  obtain ⟨x1, h3, i1, i2, k3⟩ := scan_ok D2 (by simp [Calm]) 0 20 o k (by simp [Calm]; omega)
  have sc : (Calm (laid (List.replicate 20 (List.replicate 64 0)) 0 g b)).scan 0 20 o = ([], 0) := by
    rw [Dk.scan, show (Calm (laid (List.replicate 20 (List.replicate 64 0)) 0 g b)).lasts.length = 20 from laid_length _ _ _ _]
    exact so
  rw [sc] at i1 i2
  have D3 := D2.fresh k3
  have so2 := scan_one (List.replicate 20 (List.replicate 64 0)) 0 20 g b (by omega) (by rw [List.length_replicate]; omega) (by rw [List.getElem?_replicate, if_pos (by omega)])
  obtain ⟨x2, h4, j1, j2, k4⟩ := scan_ok D3 (by simp [Calm]) 0 20 g k (by simp [Calm]; omega)
  have sc2 : (Calm (laid (List.replicate 20 (List.replicate 64 0)) 0 g b)).scan 0 20 g = ([b], ((0 + nOf b : Nat) : Int)) := by
    rw [Dk.scan, show (Calm (laid (List.replicate 20 (List.replicate 64 0)) 0 g b)).lasts.length = (List.replicate 20 (List.replicate 64 (0 : UInt8))).length from laid_length _ _ _ _]
    exact so2
  rw [sc2, Nat.zero_add] at j1
  rw [sc2] at j2
  obtain ⟨h5, a1, -⟩ := answers_ok h4 k (by omega)
  have rw := rows_ok j2.rw (rw_one hx) (by simp) 401 (by intro c hc; simp at hc; subst hc; omega) (by decide) false h5 (k + 1) (by simp; omega)
  rw [decide_eq_true rfl] at rw
  have c0 : decide ((0 : Int) = 0) = true := by decide
  have c1 : decide (((([] : List (List UInt8)).length : Nat) : Int) = 0) = true := by decide
  have c2 : decide ((nOf b : Int) = (nOf b : Int)) = true := by simp
  refine ⟨h5, exFn_of e3 ?_⟩
  rw [fnK, n0, s3]
  simp -implicitDefEqProofs only [↓runK_seq, runK_seq, ↓runK_cond, runK_cond, ↓runK_block, runK_block, ↓runK_loop, runK_loop, ↓runK_skip, runK_skip, ↓runK_ret, runK_ret, ↓runK_exit, runK_exit, ↓seqE_n, seqE_n, ↓seqE_e, seqE_e, ↓seqE_r, seqE_r, ↓blkE_n, blkE_n, ↓blkE_e, blkE_e, ↓blkE_r, blkE_r, ↓retK_n, retK_n, ↓retK_r, retK_r, ↓aCall_fn, aCall_fn, ↓bnd_s, bnd_s, ↓bnd2_s, bnd2_s, ↓onB_t, onB_t, ↓onB_f, onB_f, ↓onG_tt, onG_tt, ↓onG_tf, onG_tf, ↓onG_ft, onG_ft, ↓onG_ff, onG_ff, ↓onG_s, onG_s, ↓onT_t, onT_t, ↓aPick_t, aPick_t, ↓aPick_f, aPick_f, decide_true, decide_false, st_tmp, results1, results2, List.lookup_cons, List.lookup_nil, Nat.reduceBEq, Bool.false_eq_true, ↓reduceIte, BEq.rfl, Nat.reduceLT, Option.getD_some, Option.getD_none, ↓r3_0, r3_0, ↓r3_1, r3_1, J3_1_0, J3_1_1, J3_1_2, ↓r3_2, r3_2, ↓r3_3, r3_3, ↓r3_4, r3_4, ↓r3_5, r3_5, ↓r3_6, r3_6, ↓r3_7, r3_7, J3_7_0, J3_7_1, J3_7_2, J3_7_3, J3_7_4, J3_7_5, J3_7_6, J3_7_7, J3_7_8, J3_7_9, J3_7_10, hx.len, bin_gtr, e1, bin_eql, e2, n1, conv_16 g hg, conv_16 o ho, l1, ext0, ext1, i1, j1, a1, c0, i2.rw.len, c1, lit30 _ hx.fits, rw, c2]
end Go.Ax

/- What the regions of some functions hand on. Printed by a program of mine (gen.py). -/
set_option linter.unusedVariables false
namespace Go.Ax
open Go Go.Proofs
/-! ### interregnum/interregnumlaw03.RegionTorn -/
noncomputable def O5 (i : Nat) : Array Oper := opsOf i (bodyOf Try.f5)
theorem s5 : bodyOf Try.f5 = (.seq (.region 0 (O5 0) false) (.seq (.seq (.region 1 (O5 1) false) (.cond (Go.Operand.tmp 29) (.seq (.region 2 (O5 2) false) .ret) .skip)) (.seq (.region 3 (O5 3) false) (.seq (.region 4 (O5 4) false) (.seq (.region 5 (O5 5) false) (.seq (.region 6 (O5 6) false) (.seq (.region 7 (O5 7) false) (.seq (.region 8 (O5 8) false) (.seq (.region 9 (O5 9) false) (.seq (.region 10 (O5 10) false) .ret)))))))))) := by kernel_rfl
theorem e5 : E0 5 = some ⟨84, [12], bodyOf Try.f5⟩ := by kernel_rfl
theorem r5_0 {β : Type} (call : CallF) (md : Bool) (n : Nat) (k : Ex → List AV → Heap → Option β) (x0 x1 x2 x3 x4 x5 : AV) (h : Heap) :
    runK C0 call md 5 n (.region 0 (O5 0) false) k (st 84 [(0, x0), (1, x1), (2, x2), (3, x3), (4, x4), (5, x5)]) h =
    k .normal (st 84 [(0, x0), (1, x1), (2, x2), (3, x3), (4, x4), (5, x5)]) h
  := by kernel_rfl
def J5_1_2 {β : Type} (call : CallF) (md : Bool) (k : Ex → List AV → Heap → Option β) (x0 x1 x2 x3 x4 x5 x25 x28 : AV) (h : Heap) : Option β :=
    bnd (aPick x25 (.bool true) x28) fun v1 =>
    k .normal (st 84 [(0, x0), (1, x1), (2, x2), (3, x3), (4, x4), (5, x5), (29, v1)]) h

theorem j5_1_2 {β : Type} (call : CallF) (md : Bool) (k : Ex → List AV → Heap → Option β) (x0 x1 x2 x3 x4 x5 x22 x23 x24 x25 x26 x27 x28 : AV) (h : Heap) :
    opsK C0 call md 5 (O5 1) ((O5 1).toList.drop 7) (st 84 [(0, x0), (1, x1), (2, x2), (3, x3), (4, x4), (5, x5), (22, x22), (23, x23), (24, x24), (25, x25), (26, x26), (27, x27), (28, x28)]) h (fun tm h => k .normal (clr (C0.keep 5 1) tm) h) = J5_1_2 call md k x0 x1 x2 x3 x4 x5 x25 x28 h := by kernel_rfl
def J5_1_1 {β : Type} (call : CallF) (md : Bool) (k : Ex → List AV → Heap → Option β) (x0 x1 x2 x3 x4 x5 x25 : AV) (h : Heap) : Option β :=
    onG false x25 (
      bnd (aLen tab 22 x1) fun v3 =>
      bnd (aBinC tab .gtr 3 v3 (.int .i64 400) true) fun v4 =>
      J5_1_2 call md k x0 x1 x2 x3 x4 x5 x25 v4 h) (
      J5_1_2 call md k x0 x1 x2 x3 x4 x5 x25 .skip h)

theorem g5_1_1 {β : Type} (call : CallF) (md : Bool) (kk : List AV → Heap → Option β) (x0 x1 x2 x3 x4 x5 x22 x23 x24 x25 : AV) (h : Heap) :
    opsK C0 call md 5 (O5 1) (((O5 1).toList.drop 4).take 3) (st 84 [(0, x0), (1, x1), (2, x2), (3, x3), (4, x4), (5, x5), (22, x22), (23, x23), (24, x24), (25, x25)]) h kk =
    onG false x25 (
      bnd (aLen tab 22 x1) fun v5 =>
      bnd (aBinC tab .gtr 3 v5 (.int .i64 400) true) fun v6 =>
      kk (st 84 [(0, x0), (1, x1), (2, x2), (3, x3), (4, x4), (5, x5), (22, x22), (23, x23), (24, x24), (25, x25), (26, x1), (27, v5), (28, v6)]) h) (
      kk (st 84 [(0, x0), (1, x1), (2, x2), (3, x3), (4, x4), (5, x5), (22, x22), (23, x23), (24, x24), (25, x25), (26, .skip), (27, .skip), (28, .skip)]) h)
  := by cases x25 with | bool b => (cases b <;> kernel_rfl) | _ => kernel_rfl
theorem j5_1_1 {β : Type} (call : CallF) (md : Bool) (k : Ex → List AV → Heap → Option β) (x0 x1 x2 x3 x4 x5 x22 x23 x24 x25 : AV) (h : Heap) :
    opsK C0 call md 5 (O5 1) ((O5 1).toList.drop 4) (st 84 [(0, x0), (1, x1), (2, x2), (3, x3), (4, x4), (5, x5), (22, x22), (23, x23), (24, x24), (25, x25)]) h (fun tm h => k .normal (clr (C0.keep 5 1) tm) h) = J5_1_1 call md k x0 x1 x2 x3 x4 x5 x25 h := by
  have e : ((O5 1).toList.drop 4) = ((O5 1).toList.drop 4).take 3 ++ (O5 1).toList.drop 7 := by kernel_rfl
  rw [show opsK C0 call md 5 (O5 1) ((O5 1).toList.drop 4) = opsK C0 call md 5 (O5 1) (((O5 1).toList.drop 4).take 3 ++ (O5 1).toList.drop 7) from congrArg _ e]
  rw [opsK_append, g5_1_1]
  simp only [j5_1_2]
  rfl
def J5_1_0 {β : Type} (call : CallF) (md : Bool) (k : Ex → List AV → Heap → Option β) (x0 x1 x2 x3 x4 x5 : AV) (h : Heap) : Option β :=
    bnd (aLen tab 22 x0) fun v7 =>
    bnd (aBinC tab .gtr 3 v7 (.int .i64 400) true) fun v8 =>
    J5_1_1 call md k x0 x1 x2 x3 x4 x5 v8 h

theorem g5_1_0 {β : Type} (call : CallF) (md : Bool) (kk : List AV → Heap → Option β) (x0 x1 x2 x3 x4 x5 : AV) (h : Heap) :
    opsK C0 call md 5 (O5 1) ((O5 1).toList.take 4) (st 84 [(0, x0), (1, x1), (2, x2), (3, x3), (4, x4), (5, x5)]) h kk =
    bnd (aLen tab 22 x0) fun v9 =>
    bnd (aBinC tab .gtr 3 v9 (.int .i64 400) true) fun v10 =>
    kk (st 84 [(0, x0), (1, x1), (2, x2), (3, x3), (4, x4), (5, x5), (22, x0), (23, v9), (24, v10), (25, v10)]) h
  := by kernel_rfl
theorem j5_1_0 {β : Type} (call : CallF) (md : Bool) (k : Ex → List AV → Heap → Option β) (x0 x1 x2 x3 x4 x5 : AV) (h : Heap) :
    opsK C0 call md 5 (O5 1) (O5 1).toList (st 84 [(0, x0), (1, x1), (2, x2), (3, x3), (4, x4), (5, x5)]) h (fun tm h => k .normal (clr (C0.keep 5 1) tm) h) = J5_1_0 call md k x0 x1 x2 x3 x4 x5 h := by
  have e : (O5 1).toList = (O5 1).toList.take 4 ++ (O5 1).toList.drop 4 := by kernel_rfl
  rw [show opsK C0 call md 5 (O5 1) (O5 1).toList = opsK C0 call md 5 (O5 1) ((O5 1).toList.take 4 ++ (O5 1).toList.drop 4) from congrArg _ e]
  rw [opsK_append, g5_1_0]
  simp only [j5_1_1]
  rfl
theorem r5_1 {β : Type} (call : CallF) (md : Bool) (n : Nat) (k : Ex → List AV → Heap → Option β) (x0 x1 x2 x3 x4 x5 : AV) (h : Heap) :
    runK C0 call md 5 n (.region 1 (O5 1) false) k (st 84 [(0, x0), (1, x1), (2, x2), (3, x3), (4, x4), (5, x5)]) h = J5_1_0 call md k x0 x1 x2 x3 x4 x5 h := (runK_region C0 call md 5 n 1 (O5 1) k (st 84 [(0, x0), (1, x1), (2, x2), (3, x3), (4, x4), (5, x5)]) h).trans (j5_1_0 call md k x0 x1 x2 x3 x4 x5 h)
theorem r5_2 {β : Type} (call : CallF) (md : Bool) (n : Nat) (k : Ex → List AV → Heap → Option β) (x0 x1 x2 x3 x4 x5 x29 : AV) (h : Heap) :
    runK C0 call md 5 n (.region 2 (O5 2) false) k (st 84 [(0, x0), (1, x1), (2, x2), (3, x3), (4, x4), (5, x5), (29, x29)]) h =
    bnd2 (aCall call md (.fn (.func 12) []) [] h) fun v1 h2 =>
    k .normal (st 84 [(12, v1)]) h2
  := by kernel_rfl
theorem r5_3 {β : Type} (call : CallF) (md : Bool) (n : Nat) (k : Ex → List AV → Heap → Option β) (x0 x1 x2 x3 x4 x5 x29 : AV) (h : Heap) :
    runK C0 call md 5 n (.region 3 (O5 3) false) k (st 84 [(0, x0), (1, x1), (2, x2), (3, x3), (4, x4), (5, x5), (29, x29)]) h =
    bnd2 (aCall call md (.fn (.func 13) []) [(.int .i64 30)] h) fun v1 h2 =>
    k .normal (st 84 [(0, x0), (1, x1), (2, x2), (3, x3), (4, x4), (5, x5), (13, v1)]) h2
  := by kernel_rfl
theorem r5_4 {β : Type} (call : CallF) (md : Bool) (n : Nat) (k : Ex → List AV → Heap → Option β) (x0 x1 x2 x3 x4 x5 x13 : AV) (h : Heap) :
    runK C0 call md 5 n (.region 4 (O5 4) false) k (st 84 [(0, x0), (1, x1), (2, x2), (3, x3), (4, x4), (5, x5), (13, x13)]) h =
    bnd2 (aCall call md (.fn (.func 14) []) [x13, (.int .i64 2), (.int .i64 30), (.int .i64 5), x0] h) fun v1 h2 =>
    bnd (aExtract v1 0) fun v3 =>
    bnd (aExtract v1 1) fun v4 =>
    k .normal (st 84 [(0, x0), (1, x1), (2, x2), (3, x3), (4, x4), (5, x5), (13, x13), (14, v3), (15, v4)]) h2
  := by kernel_rfl
theorem r5_5 {β : Type} (call : CallF) (md : Bool) (n : Nat) (k : Ex → List AV → Heap → Option β) (x0 x1 x2 x3 x4 x5 x13 x14 x15 : AV) (h : Heap) :
    runK C0 call md 5 n (.region 5 (O5 5) false) k (st 84 [(0, x0), (1, x1), (2, x2), (3, x3), (4, x4), (5, x5), (13, x13), (14, x14), (15, x15)]) h =
    bnd (aBinC tab .rem 5 x2 (.int .u8 10) true) fun v1 =>
    bnd (aConv tab 5 3 v1 h) fun v2 =>
    bnd2 (aCall call md (.fn (.func 24) []) [x13, v2] h) fun v3 h4 =>
    k .normal (st 84 [(0, x0), (1, x1), (3, x3), (4, x4), (5, x5), (13, x13), (14, x14), (15, x15)]) h4
  := by kernel_rfl
theorem r5_6 {β : Type} (call : CallF) (md : Bool) (n : Nat) (k : Ex → List AV → Heap → Option β) (x0 x1 x3 x4 x5 x13 x14 x15 : AV) (h : Heap) :
    runK C0 call md 5 n (.region 6 (O5 6) false) k (st 84 [(0, x0), (1, x1), (3, x3), (4, x4), (5, x5), (13, x13), (14, x14), (15, x15)]) h =
    bnd2 (aCall call md (.fn (.func 14) []) [x13, x14, (.int .i64 30), (.int .i64 5), x1] h) fun v1 h2 =>
    bnd (aExtract v1 0) fun v3 =>
    bnd (aExtract v1 1) fun v4 =>
    k .normal (st 84 [(0, x0), (1, x1), (3, x3), (4, x4), (5, x5), (13, x13), (15, x15), (17, v4)]) h2
  := by kernel_rfl
theorem r5_7 {β : Type} (call : CallF) (md : Bool) (n : Nat) (k : Ex → List AV → Heap → Option β) (x0 x1 x3 x4 x5 x13 x15 x17 : AV) (h : Heap) :
    runK C0 call md 5 n (.region 7 (O5 7) false) k (st 84 [(0, x0), (1, x1), (3, x3), (4, x4), (5, x5), (13, x13), (15, x15), (17, x17)]) h =
    bnd2 (aCall call md (.fn (.func 25) []) [x13, x3, x4, x5] h) fun v1 h2 =>
    k .normal (st 84 [(0, x0), (1, x1), (13, x13), (15, x15), (17, x17)]) h2
  := by kernel_rfl
theorem r5_8 {β : Type} (call : CallF) (md : Bool) (n : Nat) (k : Ex → List AV → Heap → Option β) (x0 x1 x13 x15 x17 : AV) (h : Heap) :
    runK C0 call md 5 n (.region 8 (O5 8) false) k (st 84 [(0, x0), (1, x1), (13, x13), (15, x15), (17, x17)]) h =
    bnd2 (aCall call md (.fn (.func 15) []) [x13, (.int .i64 2), (.int .i64 30), (.int .i64 5)] h) fun v1 h2 =>
    bnd (aExtract v1 0) fun v3 =>
    bnd (aExtract v1 1) fun v4 =>
    k .normal (st 84 [(0, x0), (1, x1), (15, x15), (17, x17), (18, v3)]) h2
  := by kernel_rfl
theorem r5_9 {β : Type} (call : CallF) (md : Bool) (n : Nat) (k : Ex → List AV → Heap → Option β) (x0 x1 x15 x17 x18 : AV) (h : Heap) :
    runK C0 call md 5 n (.region 9 (O5 9) false) k (st 84 [(0, x0), (1, x1), (15, x15), (17, x17), (18, x18)]) h =
    bnd (aLit tab 30 1 [(0, x0)]) fun v1 =>
    bnd (aLit tab 30 2 [(0, x0), (1, x1)]) fun v2 =>
    k .normal (st 84 [(15, x15), (17, x17), (18, x18), (20, v1), (21, v2)]) h
  := by kernel_rfl
def J5_10_8 {β : Type} (call : CallF) (md : Bool) (k : Ex → List AV → Heap → Option β) (x70 x82 : AV) (h : Heap) : Option β :=
    bnd (aPick x70 x82 (.bool false)) fun v1 =>
    k .normal (st 84 [(12, v1)]) h

theorem j5_10_8 {β : Type} (call : CallF) (md : Bool) (k : Ex → List AV → Heap → Option β) (x15 x17 x18 x20 x21 x65 x66 x67 x68 x69 x70 x71 x72 x73 x74 x75 x76 x77 x78 x79 x80 x81 x82 : AV) (h : Heap) :
    opsK C0 call md 5 (O5 10) ((O5 10).toList.drop 18) (st 84 [(15, x15), (17, x17), (18, x18), (20, x20), (21, x21), (65, x65), (66, x66), (67, x67), (68, x68), (69, x69), (70, x70), (71, x71), (72, x72), (73, x73), (74, x74), (75, x75), (76, x76), (77, x77), (78, x78), (79, x79), (80, x80), (81, x81), (82, x82)]) h (fun tm h => k .normal (clr (C0.keep 5 10) tm) h) = J5_10_8 call md k x70 x82 h := by kernel_rfl
def J5_10_7 {β : Type} (call : CallF) (md : Bool) (k : Ex → List AV → Heap → Option β) (x70 x74 x81 : AV) (h : Heap) : Option β :=
    onG true x70 (
      bnd (aPick x74 (.bool true) x81) fun v3 =>
      J5_10_8 call md k x70 v3 h) (
      J5_10_8 call md k x70 .skip h)

theorem g5_10_7 {β : Type} (call : CallF) (md : Bool) (kk : List AV → Heap → Option β) (x15 x17 x18 x20 x21 x65 x66 x67 x68 x69 x70 x71 x72 x73 x74 x75 x76 x77 x78 x79 x80 x81 : AV) (h : Heap) :
    opsK C0 call md 5 (O5 10) (((O5 10).toList.drop 17).take 1) (st 84 [(15, x15), (17, x17), (18, x18), (20, x20), (21, x21), (65, x65), (66, x66), (67, x67), (68, x68), (69, x69), (70, x70), (71, x71), (72, x72), (73, x73), (74, x74), (75, x75), (76, x76), (77, x77), (78, x78), (79, x79), (80, x80), (81, x81)]) h kk =
    onG true x70 (
      bnd (aPick x74 (.bool true) x81) fun v4 =>
      kk (st 84 [(15, x15), (17, x17), (18, x18), (20, x20), (21, x21), (65, x65), (66, x66), (67, x67), (68, x68), (69, x69), (70, x70), (71, x71), (72, x72), (73, x73), (74, x74), (75, x75), (76, x76), (77, x77), (78, x78), (79, x79), (80, x80), (81, x81), (82, v4)]) h) (
      kk (st 84 [(15, x15), (17, x17), (18, x18), (20, x20), (21, x21), (65, x65), (66, x66), (67, x67), (68, x68), (69, x69), (70, x70), (71, x71), (72, x72), (73, x73), (74, x74), (75, x75), (76, x76), (77, x77), (78, x78), (79, x79), (80, x80), (81, x81), (82, .skip)]) h)
  := by cases x70 with | bool b => (cases b <;> kernel_rfl) | _ => kernel_rfl
theorem j5_10_7 {β : Type} (call : CallF) (md : Bool) (k : Ex → List AV → Heap → Option β) (x15 x17 x18 x20 x21 x65 x66 x67 x68 x69 x70 x71 x72 x73 x74 x75 x76 x77 x78 x79 x80 x81 : AV) (h : Heap) :
    opsK C0 call md 5 (O5 10) ((O5 10).toList.drop 17) (st 84 [(15, x15), (17, x17), (18, x18), (20, x20), (21, x21), (65, x65), (66, x66), (67, x67), (68, x68), (69, x69), (70, x70), (71, x71), (72, x72), (73, x73), (74, x74), (75, x75), (76, x76), (77, x77), (78, x78), (79, x79), (80, x80), (81, x81)]) h (fun tm h => k .normal (clr (C0.keep 5 10) tm) h) = J5_10_7 call md k x70 x74 x81 h := by
  have e : ((O5 10).toList.drop 17) = ((O5 10).toList.drop 17).take 1 ++ (O5 10).toList.drop 18 := by kernel_rfl
  rw [show opsK C0 call md 5 (O5 10) ((O5 10).toList.drop 17) = opsK C0 call md 5 (O5 10) (((O5 10).toList.drop 17).take 1 ++ (O5 10).toList.drop 18) from congrArg _ e]
  rw [opsK_append, g5_10_7]
  simp only [j5_10_8]
  rfl
def J5_10_6 {β : Type} (call : CallF) (md : Bool) (k : Ex → List AV → Heap → Option β) (x70 x74 x77 x80 : AV) (h : Heap) : Option β :=
    onG false x74 (
      bnd (aPick x77 x80 (.bool false)) fun v5 =>
      J5_10_7 call md k x70 x74 v5 h) (
      J5_10_7 call md k x70 x74 .skip h)

theorem g5_10_6 {β : Type} (call : CallF) (md : Bool) (kk : List AV → Heap → Option β) (x15 x17 x18 x20 x21 x65 x66 x67 x68 x69 x70 x71 x72 x73 x74 x75 x76 x77 x78 x79 x80 : AV) (h : Heap) :
    opsK C0 call md 5 (O5 10) (((O5 10).toList.drop 16).take 1) (st 84 [(15, x15), (17, x17), (18, x18), (20, x20), (21, x21), (65, x65), (66, x66), (67, x67), (68, x68), (69, x69), (70, x70), (71, x71), (72, x72), (73, x73), (74, x74), (75, x75), (76, x76), (77, x77), (78, x78), (79, x79), (80, x80)]) h kk =
    onG false x74 (
      bnd (aPick x77 x80 (.bool false)) fun v6 =>
      kk (st 84 [(15, x15), (17, x17), (18, x18), (20, x20), (21, x21), (65, x65), (66, x66), (67, x67), (68, x68), (69, x69), (70, x70), (71, x71), (72, x72), (73, x73), (74, x74), (75, x75), (76, x76), (77, x77), (78, x78), (79, x79), (80, x80), (81, v6)]) h) (
      kk (st 84 [(15, x15), (17, x17), (18, x18), (20, x20), (21, x21), (65, x65), (66, x66), (67, x67), (68, x68), (69, x69), (70, x70), (71, x71), (72, x72), (73, x73), (74, x74), (75, x75), (76, x76), (77, x77), (78, x78), (79, x79), (80, x80), (81, .skip)]) h)
  := by cases x74 with | bool b => (cases b <;> kernel_rfl) | _ => kernel_rfl
theorem j5_10_6 {β : Type} (call : CallF) (md : Bool) (k : Ex → List AV → Heap → Option β) (x15 x17 x18 x20 x21 x65 x66 x67 x68 x69 x70 x71 x72 x73 x74 x75 x76 x77 x78 x79 x80 : AV) (h : Heap) :
    opsK C0 call md 5 (O5 10) ((O5 10).toList.drop 16) (st 84 [(15, x15), (17, x17), (18, x18), (20, x20), (21, x21), (65, x65), (66, x66), (67, x67), (68, x68), (69, x69), (70, x70), (71, x71), (72, x72), (73, x73), (74, x74), (75, x75), (76, x76), (77, x77), (78, x78), (79, x79), (80, x80)]) h (fun tm h => k .normal (clr (C0.keep 5 10) tm) h) = J5_10_6 call md k x70 x74 x77 x80 h := by
  have e : ((O5 10).toList.drop 16) = ((O5 10).toList.drop 16).take 1 ++ (O5 10).toList.drop 17 := by kernel_rfl
  rw [show opsK C0 call md 5 (O5 10) ((O5 10).toList.drop 16) = opsK C0 call md 5 (O5 10) (((O5 10).toList.drop 16).take 1 ++ (O5 10).toList.drop 17) from congrArg _ e]
  rw [opsK_append, g5_10_6]
  simp only [j5_10_7]
  rfl
def J5_10_5 {β : Type} (call : CallF) (md : Bool) (k : Ex → List AV → Heap → Option β) (x18 x20 x70 x74 x77 : AV) (h : Heap) : Option β :=
    onG true x77 (
      bnd2 (aCall call md (.fn (.func 16) []) [x18, x20] h) fun v7 h8 =>
      J5_10_6 call md k x70 x74 x77 v7 h8) (
      J5_10_6 call md k x70 x74 x77 .skip h)

theorem g5_10_5 {β : Type} (call : CallF) (md : Bool) (kk : List AV → Heap → Option β) (x15 x17 x18 x20 x21 x65 x66 x67 x68 x69 x70 x71 x72 x73 x74 x75 x76 x77 : AV) (h : Heap) :
    opsK C0 call md 5 (O5 10) (((O5 10).toList.drop 13).take 3) (st 84 [(15, x15), (17, x17), (18, x18), (20, x20), (21, x21), (65, x65), (66, x66), (67, x67), (68, x68), (69, x69), (70, x70), (71, x71), (72, x72), (73, x73), (74, x74), (75, x75), (76, x76), (77, x77)]) h kk =
    onG true x77 (
      bnd2 (aCall call md (.fn (.func 16) []) [x18, x20] h) fun v9 h10 =>
      kk (st 84 [(15, x15), (17, x17), (18, x18), (20, x20), (21, x21), (65, x65), (66, x66), (67, x67), (68, x68), (69, x69), (70, x70), (71, x71), (72, x72), (73, x73), (74, x74), (75, x75), (76, x76), (77, x77), (78, x18), (79, x20), (80, v9)]) h10) (
      kk (st 84 [(15, x15), (17, x17), (18, x18), (20, x20), (21, x21), (65, x65), (66, x66), (67, x67), (68, x68), (69, x69), (70, x70), (71, x71), (72, x72), (73, x73), (74, x74), (75, x75), (76, x76), (77, x77), (78, .skip), (79, .skip), (80, .skip)]) h)
  := by cases x77 with | bool b => (cases b <;> kernel_rfl) | _ => kernel_rfl
theorem j5_10_5 {β : Type} (call : CallF) (md : Bool) (k : Ex → List AV → Heap → Option β) (x15 x17 x18 x20 x21 x65 x66 x67 x68 x69 x70 x71 x72 x73 x74 x75 x76 x77 : AV) (h : Heap) :
    opsK C0 call md 5 (O5 10) ((O5 10).toList.drop 13) (st 84 [(15, x15), (17, x17), (18, x18), (20, x20), (21, x21), (65, x65), (66, x66), (67, x67), (68, x68), (69, x69), (70, x70), (71, x71), (72, x72), (73, x73), (74, x74), (75, x75), (76, x76), (77, x77)]) h (fun tm h => k .normal (clr (C0.keep 5 10) tm) h) = J5_10_5 call md k x18 x20 x70 x74 x77 h := by
  have e : ((O5 10).toList.drop 13) = ((O5 10).toList.drop 13).take 3 ++ (O5 10).toList.drop 16 := by kernel_rfl
  rw [show opsK C0 call md 5 (O5 10) ((O5 10).toList.drop 13) = opsK C0 call md 5 (O5 10) (((O5 10).toList.drop 13).take 3 ++ (O5 10).toList.drop 16) from congrArg _ e]
  rw [opsK_append, g5_10_5]
  simp only [j5_10_6]
  rfl
def J5_10_4 {β : Type} (call : CallF) (md : Bool) (k : Ex → List AV → Heap → Option β) (x17 x18 x20 x70 x74 : AV) (h : Heap) : Option β :=
    onG false x74 (
      bnd (aBinC tab .neq 27 x17 (.int .i64 0) true) fun v11 =>
      J5_10_5 call md k x18 x20 x70 x74 v11 h) (
      J5_10_5 call md k x18 x20 x70 x74 .skip h)

theorem g5_10_4 {β : Type} (call : CallF) (md : Bool) (kk : List AV → Heap → Option β) (x15 x17 x18 x20 x21 x65 x66 x67 x68 x69 x70 x71 x72 x73 x74 : AV) (h : Heap) :
    opsK C0 call md 5 (O5 10) (((O5 10).toList.drop 10).take 3) (st 84 [(15, x15), (17, x17), (18, x18), (20, x20), (21, x21), (65, x65), (66, x66), (67, x67), (68, x68), (69, x69), (70, x70), (71, x71), (72, x72), (73, x73), (74, x74)]) h kk =
    onG false x74 (
      bnd (aBinC tab .neq 27 x17 (.int .i64 0) true) fun v12 =>
      kk (st 84 [(15, x15), (17, x17), (18, x18), (20, x20), (21, x21), (65, x65), (66, x66), (67, x67), (68, x68), (69, x69), (70, x70), (71, x71), (72, x72), (73, x73), (74, x74), (75, x17), (76, v12), (77, v12)]) h) (
      kk (st 84 [(15, x15), (17, x17), (18, x18), (20, x20), (21, x21), (65, x65), (66, x66), (67, x67), (68, x68), (69, x69), (70, x70), (71, x71), (72, x72), (73, x73), (74, x74), (75, .skip), (76, .skip), (77, .skip)]) h)
  := by cases x74 with | bool b => (cases b <;> kernel_rfl) | _ => kernel_rfl
theorem j5_10_4 {β : Type} (call : CallF) (md : Bool) (k : Ex → List AV → Heap → Option β) (x15 x17 x18 x20 x21 x65 x66 x67 x68 x69 x70 x71 x72 x73 x74 : AV) (h : Heap) :
    opsK C0 call md 5 (O5 10) ((O5 10).toList.drop 10) (st 84 [(15, x15), (17, x17), (18, x18), (20, x20), (21, x21), (65, x65), (66, x66), (67, x67), (68, x68), (69, x69), (70, x70), (71, x71), (72, x72), (73, x73), (74, x74)]) h (fun tm h => k .normal (clr (C0.keep 5 10) tm) h) = J5_10_4 call md k x17 x18 x20 x70 x74 h := by
  have e : ((O5 10).toList.drop 10) = ((O5 10).toList.drop 10).take 3 ++ (O5 10).toList.drop 13 := by kernel_rfl
  rw [show opsK C0 call md 5 (O5 10) ((O5 10).toList.drop 10) = opsK C0 call md 5 (O5 10) (((O5 10).toList.drop 10).take 3 ++ (O5 10).toList.drop 13) from congrArg _ e]
  rw [opsK_append, g5_10_4]
  simp only [j5_10_5]
  rfl
def J5_10_3 {β : Type} (call : CallF) (md : Bool) (k : Ex → List AV → Heap → Option β) (x17 x18 x20 x21 x70 : AV) (h : Heap) : Option β :=
    onG true x70 (
      bnd2 (aCall call md (.fn (.func 16) []) [x18, x21] h) fun v13 h14 =>
      J5_10_4 call md k x17 x18 x20 x70 v13 h14) (
      J5_10_4 call md k x17 x18 x20 x70 .skip h)

theorem g5_10_3 {β : Type} (call : CallF) (md : Bool) (kk : List AV → Heap → Option β) (x15 x17 x18 x20 x21 x65 x66 x67 x68 x69 x70 : AV) (h : Heap) :
    opsK C0 call md 5 (O5 10) (((O5 10).toList.drop 6).take 4) (st 84 [(15, x15), (17, x17), (18, x18), (20, x20), (21, x21), (65, x65), (66, x66), (67, x67), (68, x68), (69, x69), (70, x70)]) h kk =
    onG true x70 (
      bnd2 (aCall call md (.fn (.func 16) []) [x18, x21] h) fun v15 h16 =>
      kk (st 84 [(15, x15), (17, x17), (18, x18), (20, x20), (21, x21), (65, x65), (66, x66), (67, x67), (68, x68), (69, x69), (70, x70), (71, x18), (72, x21), (73, v15), (74, v15)]) h16) (
      kk (st 84 [(15, x15), (17, x17), (18, x18), (20, x20), (21, x21), (65, x65), (66, x66), (67, x67), (68, x68), (69, x69), (70, x70), (71, .skip), (72, .skip), (73, .skip), (74, .skip)]) h)
  := by cases x70 with | bool b => (cases b <;> kernel_rfl) | _ => kernel_rfl
theorem j5_10_3 {β : Type} (call : CallF) (md : Bool) (k : Ex → List AV → Heap → Option β) (x15 x17 x18 x20 x21 x65 x66 x67 x68 x69 x70 : AV) (h : Heap) :
    opsK C0 call md 5 (O5 10) ((O5 10).toList.drop 6) (st 84 [(15, x15), (17, x17), (18, x18), (20, x20), (21, x21), (65, x65), (66, x66), (67, x67), (68, x68), (69, x69), (70, x70)]) h (fun tm h => k .normal (clr (C0.keep 5 10) tm) h) = J5_10_3 call md k x17 x18 x20 x21 x70 h := by
  have e : ((O5 10).toList.drop 6) = ((O5 10).toList.drop 6).take 4 ++ (O5 10).toList.drop 10 := by kernel_rfl
  rw [show opsK C0 call md 5 (O5 10) ((O5 10).toList.drop 6) = opsK C0 call md 5 (O5 10) (((O5 10).toList.drop 6).take 4 ++ (O5 10).toList.drop 10) from congrArg _ e]
  rw [opsK_append, g5_10_3]
  simp only [j5_10_4]
  rfl
def J5_10_2 {β : Type} (call : CallF) (md : Bool) (k : Ex → List AV → Heap → Option β) (x17 x18 x20 x21 x66 x68 : AV) (h : Heap) : Option β :=
    bnd (aPick x66 x68 (.bool false)) fun v17 =>
    J5_10_3 call md k x17 x18 x20 x21 v17 h

theorem g5_10_2 {β : Type} (call : CallF) (md : Bool) (kk : List AV → Heap → Option β) (x15 x17 x18 x20 x21 x65 x66 x67 x68 : AV) (h : Heap) :
    opsK C0 call md 5 (O5 10) (((O5 10).toList.drop 4).take 2) (st 84 [(15, x15), (17, x17), (18, x18), (20, x20), (21, x21), (65, x65), (66, x66), (67, x67), (68, x68)]) h kk =
    bnd (aPick x66 x68 (.bool false)) fun v18 =>
    kk (st 84 [(15, x15), (17, x17), (18, x18), (20, x20), (21, x21), (65, x65), (66, x66), (67, x67), (68, x68), (69, v18), (70, v18)]) h
  := by kernel_rfl
theorem j5_10_2 {β : Type} (call : CallF) (md : Bool) (k : Ex → List AV → Heap → Option β) (x15 x17 x18 x20 x21 x65 x66 x67 x68 : AV) (h : Heap) :
    opsK C0 call md 5 (O5 10) ((O5 10).toList.drop 4) (st 84 [(15, x15), (17, x17), (18, x18), (20, x20), (21, x21), (65, x65), (66, x66), (67, x67), (68, x68)]) h (fun tm h => k .normal (clr (C0.keep 5 10) tm) h) = J5_10_2 call md k x17 x18 x20 x21 x66 x68 h := by
  have e : ((O5 10).toList.drop 4) = ((O5 10).toList.drop 4).take 2 ++ (O5 10).toList.drop 6 := by kernel_rfl
  rw [show opsK C0 call md 5 (O5 10) ((O5 10).toList.drop 4) = opsK C0 call md 5 (O5 10) (((O5 10).toList.drop 4).take 2 ++ (O5 10).toList.drop 6) from congrArg _ e]
  rw [opsK_append, g5_10_2]
  simp only [j5_10_3]
  rfl
def J5_10_1 {β : Type} (call : CallF) (md : Bool) (k : Ex → List AV → Heap → Option β) (x15 x17 x18 x20 x21 x66 : AV) (h : Heap) : Option β :=
    onG true x66 (
      bnd (aBinC tab .eql 27 x15 (.int .i64 0) true) fun v19 =>
      J5_10_2 call md k x17 x18 x20 x21 x66 v19 h) (
      J5_10_2 call md k x17 x18 x20 x21 x66 .skip h)

theorem g5_10_1 {β : Type} (call : CallF) (md : Bool) (kk : List AV → Heap → Option β) (x15 x17 x18 x20 x21 x65 x66 : AV) (h : Heap) :
    opsK C0 call md 5 (O5 10) (((O5 10).toList.drop 2).take 2) (st 84 [(15, x15), (17, x17), (18, x18), (20, x20), (21, x21), (65, x65), (66, x66)]) h kk =
    onG true x66 (
      bnd (aBinC tab .eql 27 x15 (.int .i64 0) true) fun v20 =>
      kk (st 84 [(15, x15), (17, x17), (18, x18), (20, x20), (21, x21), (65, x65), (66, x66), (67, x15), (68, v20)]) h) (
      kk (st 84 [(15, x15), (17, x17), (18, x18), (20, x20), (21, x21), (65, x65), (66, x66), (67, .skip), (68, .skip)]) h)
  := by cases x66 with | bool b => (cases b <;> kernel_rfl) | _ => kernel_rfl
theorem j5_10_1 {β : Type} (call : CallF) (md : Bool) (k : Ex → List AV → Heap → Option β) (x15 x17 x18 x20 x21 x65 x66 : AV) (h : Heap) :
    opsK C0 call md 5 (O5 10) ((O5 10).toList.drop 2) (st 84 [(15, x15), (17, x17), (18, x18), (20, x20), (21, x21), (65, x65), (66, x66)]) h (fun tm h => k .normal (clr (C0.keep 5 10) tm) h) = J5_10_1 call md k x15 x17 x18 x20 x21 x66 h := by
  have e : ((O5 10).toList.drop 2) = ((O5 10).toList.drop 2).take 2 ++ (O5 10).toList.drop 4 := by kernel_rfl
  rw [show opsK C0 call md 5 (O5 10) ((O5 10).toList.drop 2) = opsK C0 call md 5 (O5 10) (((O5 10).toList.drop 2).take 2 ++ (O5 10).toList.drop 4) from congrArg _ e]
  rw [opsK_append, g5_10_1]
  simp only [j5_10_2]
  rfl
def J5_10_0 {β : Type} (call : CallF) (md : Bool) (k : Ex → List AV → Heap → Option β) (x15 x17 x18 x20 x21 : AV) (h : Heap) : Option β :=
    bnd2 (aCall call md (.fn (.func 12) []) [] h) fun v21 h22 =>
    J5_10_1 call md k x15 x17 x18 x20 x21 v21 h22

theorem g5_10_0 {β : Type} (call : CallF) (md : Bool) (kk : List AV → Heap → Option β) (x15 x17 x18 x20 x21 : AV) (h : Heap) :
    opsK C0 call md 5 (O5 10) ((O5 10).toList.take 2) (st 84 [(15, x15), (17, x17), (18, x18), (20, x20), (21, x21)]) h kk =
    bnd2 (aCall call md (.fn (.func 12) []) [] h) fun v23 h24 =>
    kk (st 84 [(15, x15), (17, x17), (18, x18), (20, x20), (21, x21), (65, v23), (66, v23)]) h24
  := by kernel_rfl
theorem j5_10_0 {β : Type} (call : CallF) (md : Bool) (k : Ex → List AV → Heap → Option β) (x15 x17 x18 x20 x21 : AV) (h : Heap) :
    opsK C0 call md 5 (O5 10) (O5 10).toList (st 84 [(15, x15), (17, x17), (18, x18), (20, x20), (21, x21)]) h (fun tm h => k .normal (clr (C0.keep 5 10) tm) h) = J5_10_0 call md k x15 x17 x18 x20 x21 h := by
  have e : (O5 10).toList = (O5 10).toList.take 2 ++ (O5 10).toList.drop 2 := by kernel_rfl
  rw [show opsK C0 call md 5 (O5 10) (O5 10).toList = opsK C0 call md 5 (O5 10) ((O5 10).toList.take 2 ++ (O5 10).toList.drop 2) from congrArg _ e]
  rw [opsK_append, g5_10_0]
  simp only [j5_10_1]
  rfl
theorem r5_10 {β : Type} (call : CallF) (md : Bool) (n : Nat) (k : Ex → List AV → Heap → Option β) (x15 x17 x18 x20 x21 : AV) (h : Heap) :
    runK C0 call md 5 n (.region 10 (O5 10) false) k (st 84 [(15, x15), (17, x17), (18, x18), (20, x20), (21, x21)]) h = J5_10_0 call md k x15 x17 x18 x20 x21 h := (runK_region C0 call md 5 n 10 (O5 10) k (st 84 [(15, x15), (17, x17), (18, x18), (20, x20), (21, x21)]) h).trans (j5_10_0 call md k x15 x17 x18 x20 x21 h)
end Go.Ax

/- RegionTorn: its run comes to true. -/
namespace Go.Ax
open Go Go.Proofs

theorem rem10_u8 (a : Nat) : aBinC tab .rem 5 (.int .u8 a) (.int .u8 10) true = some (.int .u8 ((a % 10 : Nat) : Int)) := by
  simp [aBinC, aBin, Go.binOp, Op.intDiv, ofPure, pure, wrap_u8]
  rw [Int.tmod_eq_emod_of_nonneg (by omega)]
  try omega
theorem conv8_64 (n : Nat) (hn : n < 256) (h : Heap) : aConv tab 5 3 (.int .u8 n) h = some (.int .i64 n) := by
  simp [aConv]
  exact wrap_i64 (by omega) (by omega)
theorem lit30_2 (u v : AV) (hu : fits tab 22 u = true) (hv : fits tab 22 v = true) : aLit tab 30 2 [(0, u), (1, v)] = some (.vsl 22 [u, v] .exact) := by simp [aLit, aElems, aFill, hu, hv]
theorem rw_two {x y : AV} {a b : List UInt8} (hx : Bs x a) (hy : Bs y b) : Rw (.vsl 22 [x, y] .exact) [a, b] := .inr ⟨_, _, rfl, .cons hx (.cons hy .nil)⟩

theorem torn_law (h : Heap) {x y : AV} {a b : List UInt8} (hx : Bs x a) (hy : Bs y b) (fu KK : Nat) (hK : KK < 2 ^ 64) (torn at' : Int) (k : Nat) (hk : 9200 < k) :
    ∃ h', exFn C0 E0 (k + 1) false 5 [x, y, .int .u8 fu, .int .u64 KK, .int .i64 torn, .int .i64 at'] h = some (.bool true, h') := by
  obtain ⟨k, rfl⟩ : ∃ j, k = j + 1 := ⟨k - 1, by omega⟩
  have n0 : ([x, y, .int .u8 fu, .int .u64 KK, .int .i64 torn, .int .i64 at'] ++ List.replicate (84 - [x, y, AV.int .u8 fu, .int .u64 KK, .int .i64 torn, .int .i64 at'].length) AV.undef) =
      st 84 [(0, x), (1, y), (2, .int .u8 fu), (3, .int .u64 KK), (4, .int .i64 torn), (5, .int .i64 at')] := rfl
  obtain ⟨ha, a1, ka⟩ := answers_ok h k (by omega)
  by_cases q1 : 400 < a.length
  · have e1 : decide ((400 : Int) < (a.length : Nat)) = true := decide_eq_true (by omega)
    refine ⟨ha, exFn_of e5 ?_⟩
    rw [fnK, n0, s5]
    simp -implicitDefEqProofs only [↓runK_seq, runK_seq, ↓runK_cond, runK_cond, ↓runK_block, runK_block, ↓runK_loop, runK_loop, ↓runK_skip, runK_skip, ↓runK_ret, runK_ret, ↓runK_exit, runK_exit, ↓seqE_n, seqE_n, ↓seqE_e, seqE_e, ↓seqE_r, seqE_r, ↓blkE_n, blkE_n, ↓blkE_e, blkE_e, ↓blkE_r, blkE_r, ↓retK_n, retK_n, ↓retK_r, retK_r, ↓aCall_fn, aCall_fn, ↓bnd_s, bnd_s, ↓bnd2_s, bnd2_s, ↓onB_t, onB_t, ↓onB_f, onB_f, ↓onG_tt, onG_tt, ↓onG_tf, onG_tf, ↓onG_ft, onG_ft, ↓onG_ff, onG_ff, ↓onG_s, onG_s, ↓onT_t, onT_t, ↓aPick_t, aPick_t, ↓aPick_f, aPick_f, decide_true, decide_false, st_tmp, results1, results2, List.lookup_cons, List.lookup_nil, Nat.reduceBEq, Bool.false_eq_true, ↓reduceIte, BEq.rfl, Nat.reduceLT, Option.getD_some, Option.getD_none, ↓r5_0, r5_0, ↓r5_1, r5_1, J5_1_0, J5_1_1, J5_1_2, ↓r5_2, r5_2, ↓r5_3, r5_3, ↓r5_4, r5_4, ↓r5_5, r5_5, ↓r5_6, r5_6, ↓r5_7, r5_7, ↓r5_8, r5_8, ↓r5_9, r5_9, ↓r5_10, r5_10, J5_10_0, J5_10_1, J5_10_2, J5_10_3, J5_10_4, J5_10_5, J5_10_6, J5_10_7, J5_10_8, hx.len, bin_gtr, e1, a1]
  have e1 : decide ((400 : Int) < (a.length : Nat)) = false := decide_eq_false (by omega)
  by_cases q2 : 400 < b.length
  · have e2 : decide ((400 : Int) < (b.length : Nat)) = true := decide_eq_true (by omega)
    refine ⟨ha, exFn_of e5 ?_⟩
    rw [fnK, n0, s5]
    simp -implicitDefEqProofs only [↓runK_seq, runK_seq, ↓runK_cond, runK_cond, ↓runK_block, runK_block, ↓runK_loop, runK_loop, ↓runK_skip, runK_skip, ↓runK_ret, runK_ret, ↓runK_exit, runK_exit, ↓seqE_n, seqE_n, ↓seqE_e, seqE_e, ↓seqE_r, seqE_r, ↓blkE_n, blkE_n, ↓blkE_e, blkE_e, ↓blkE_r, blkE_r, ↓retK_n, retK_n, ↓retK_r, retK_r, ↓aCall_fn, aCall_fn, ↓bnd_s, bnd_s, ↓bnd2_s, bnd2_s, ↓onB_t, onB_t, ↓onB_f, onB_f, ↓onG_tt, onG_tt, ↓onG_tf, onG_tf, ↓onG_ft, onG_ft, ↓onG_ff, onG_ff, ↓onG_s, onG_s, ↓onT_t, onT_t, ↓aPick_t, aPick_t, ↓aPick_f, aPick_f, decide_true, decide_false, st_tmp, results1, results2, List.lookup_cons, List.lookup_nil, Nat.reduceBEq, Bool.false_eq_true, ↓reduceIte, BEq.rfl, Nat.reduceLT, Option.getD_some, Option.getD_none, ↓r5_0, r5_0, ↓r5_1, r5_1, J5_1_0, J5_1_1, J5_1_2, ↓r5_2, r5_2, ↓r5_3, r5_3, ↓r5_4, r5_4, ↓r5_5, r5_5, ↓r5_6, r5_6, ↓r5_7, r5_7, ↓r5_8, r5_8, ↓r5_9, r5_9, ↓r5_10, r5_10, J5_10_0, J5_10_1, J5_10_2, J5_10_3, J5_10_4, J5_10_5, J5_10_6, J5_10_7, J5_10_8, hx.len, hy.len, bin_gtr, e1, e2, a1]
  have e2 : decide ((400 : Int) < (b.length : Nat)) = false := decide_eq_false (by omega)
  clear a1 ka ha
  have up := Up.fresh h
  have hna := nOf_eq a
  have hna2 := nOf_eq' a
  have hnb := nOf_eq b
  have hnb2 := nOf_eq' b
  obtain ⟨p, r, h1, n1, D1, k1⟩ := new_ok 30 h false k
  have up1 := up.keep k1
  have lc : (Dk.new 30).lay 2 30 5 a = ((((2 + nOf a : Nat) : Int), 0), Calm (la a)) := lay_calm bl30 2 30 5 a (by omega) (by decide) (by decide) (by decide) (by show _ ≤ min (30 : Int) ((30 : Nat) : Int) - _; omega)
  obtain ⟨h2, l1, D2, k2⟩ := lay_ok D1 up1 (by decide) (by decide) 2 30 5 (by decide) hx (by omega) k (by simp [Dk.new]; omega)
  rw [lc] at l1 D2
  have up2 := up1.keep k2
  obtain ⟨h3, f1, D3, k3⟩ := fuse_ok D2 ((fu % 10 : Nat) : Int) false k
  have hd : (Calm (la a)).setFuse ((fu % 10 : Nat) : Int) = ⟨la a, [], ((fu % 10 : Nat) : Int), false⟩ := by
    simp only [Dk.setFuse, Calm]
    rw [show max ((fu % 10 : Nat) : Int) 0 = ((fu % 10 : Nat) : Int) by omega]
  have D3' : Dsk (From h.length) h3 p r ⟨la a, [], ((fu % 10 : Nat) : Int), false⟩ := by rw [← hd]; exact D3
  have up3 := up2.keep k3
  obtain ⟨h4, l2, D4, k4⟩ := lay_ok D3' up3 (by simp) (by show ((fu % 10 : Nat) : Int) < _; omega) ((2 + nOf a : Nat) : Int) 30 5 (by omega) hy (by omega) k (by simp; omega)
  have hL := laid_of (la a) (2 + nOf a) (fu % 10) b (by omega) (by rw [la_length]; omega) 30 (by omega)
  generalize (⟨la a, [], ((fu % 10 : Nat) : Int), false⟩ : Dk).lay ((2 + nOf a : Nat) : Int) 30 5 b = R at *
  have up4 := up3.keep k4
  have hlo := hL.loose (by omega)
  obtain ⟨h5, c1, D5, k5⟩ := crash_ok D4 up4 (by omega) KK hK torn at' false k (by omega)
  have htp := torn_plain a b (by omega) (by omega) KK torn at' R hL
  obtain ⟨z, h6, s1, s2, k6⟩ := scan_ok D5 (by simp [Dk.crash]) 2 30 5 k (by simp [Dk.crash]; omega)
  generalize ((R.2.crash KK torn at').scan 2 30 5) = sc at *
  obtain ⟨rows, pos⟩ := sc
  obtain ⟨⟨nx, fe⟩, dk⟩ := R
  simp only at *
  obtain ⟨h7, a1, -⟩ := answers_ok h6 k (by omega)
  have z0 : decide ((0 : Int) = 0) = true := by decide
  have hrl : rows.length ≤ 2 := by rcases htp with rfl | ⟨-, rfl⟩ <;> simp
  have hrB : ∀ c ∈ rows, c.length < 401 := by
    rcases htp with rfl | ⟨-, rfl⟩ <;> intro c hc <;> simp at hc
    · rcases hc with rfl | rfl <;> omega
    · subst hc; omega
  have rw2 := rows_ok s2.rw (rw_two hx hy) (by omega) 401 hrB (by decide) false h7 (k + 1) (by omega)
  have rw1 := rows_ok s2.rw (rw_one hx) (by omega) 401 hrB (by decide) false h7 (k + 1) (by omega)
  refine ⟨h7, exFn_of e5 ?_⟩
  rw [fnK, n0, s5]
  simp -implicitDefEqProofs only [↓runK_seq, runK_seq, ↓runK_cond, runK_cond, ↓runK_block, runK_block, ↓runK_loop, runK_loop, ↓runK_skip, runK_skip, ↓runK_ret, runK_ret, ↓runK_exit, runK_exit, ↓seqE_n, seqE_n, ↓seqE_e, seqE_e, ↓seqE_r, seqE_r, ↓blkE_n, blkE_n, ↓blkE_e, blkE_e, ↓blkE_r, blkE_r, ↓retK_n, retK_n, ↓retK_r, retK_r, ↓aCall_fn, aCall_fn, ↓bnd_s, bnd_s, ↓bnd2_s, bnd2_s, ↓onB_t, onB_t, ↓onB_f, onB_f, ↓onG_tt, onG_tt, ↓onG_tf, onG_tf, ↓onG_ft, onG_ft, ↓onG_ff, onG_ff, ↓onG_s, onG_s, ↓onT_t, onT_t, ↓aPick_t, aPick_t, ↓aPick_f, aPick_f, decide_true, decide_false, st_tmp, results1, results2, List.lookup_cons, List.lookup_nil, Nat.reduceBEq, Bool.false_eq_true, ↓reduceIte, BEq.rfl, Nat.reduceLT, Option.getD_some, Option.getD_none, ↓r5_0, r5_0, ↓r5_1, r5_1, J5_1_0, J5_1_1, J5_1_2, ↓r5_2, r5_2, ↓r5_3, r5_3, ↓r5_4, r5_4, ↓r5_5, r5_5, ↓r5_6, r5_6, ↓r5_7, r5_7, ↓r5_8, r5_8, ↓r5_9, r5_9, ↓r5_10, r5_10, J5_10_0, J5_10_1, J5_10_2, J5_10_3, J5_10_4, J5_10_5, J5_10_6, J5_10_7, J5_10_8, hx.len, hy.len, bin_gtr, e1, e2, n1, l1, ext0, ext1, rem10_u8, conv8_64 (fu % 10) (by omega), f1, l2, c1, s1, lit30 _ hx.fits, lit30_2 _ _ hx.fits hy.fits, a1, bin_eql, z0, rw2]
  by_cases hr : rows = [a, b]
  · rw [decide_eq_true hr]
    simp -implicitDefEqProofs only [↓runK_seq, runK_seq, ↓runK_cond, runK_cond, ↓runK_block, runK_block, ↓runK_loop, runK_loop, ↓runK_skip, runK_skip, ↓runK_ret, runK_ret, ↓runK_exit, runK_exit, ↓seqE_n, seqE_n, ↓seqE_e, seqE_e, ↓seqE_r, seqE_r, ↓blkE_n, blkE_n, ↓blkE_e, blkE_e, ↓blkE_r, blkE_r, ↓retK_n, retK_n, ↓retK_r, retK_r, ↓aCall_fn, aCall_fn, ↓bnd_s, bnd_s, ↓bnd2_s, bnd2_s, ↓onB_t, onB_t, ↓onB_f, onB_f, ↓onG_tt, onG_tt, ↓onG_tf, onG_tf, ↓onG_ft, onG_ft, ↓onG_ff, onG_ff, ↓onG_s, onG_s, ↓onT_t, onT_t, ↓aPick_t, aPick_t, ↓aPick_f, aPick_f, decide_true, decide_false, st_tmp, results1, results2, List.lookup_cons, List.lookup_nil, Nat.reduceBEq, Bool.false_eq_true, ↓reduceIte, BEq.rfl, Nat.reduceLT, Option.getD_some, Option.getD_none, ↓r5_0, r5_0, ↓r5_1, r5_1, J5_1_0, J5_1_1, J5_1_2, ↓r5_2, r5_2, ↓r5_3, r5_3, ↓r5_4, r5_4, ↓r5_5, r5_5, ↓r5_6, r5_6, ↓r5_7, r5_7, ↓r5_8, r5_8, ↓r5_9, r5_9, ↓r5_10, r5_10, J5_10_0, J5_10_1, J5_10_2, J5_10_3, J5_10_4, J5_10_5, J5_10_6, J5_10_7, J5_10_8]
  · obtain ⟨hf, hr1⟩ := htp.resolve_left hr
    have e3 : decide (fe ≠ 0) = true := decide_eq_true hf
    rw [decide_eq_true hr1] at rw1
    rw [decide_eq_false hr]
    simp -implicitDefEqProofs only [↓runK_seq, runK_seq, ↓runK_cond, runK_cond, ↓runK_block, runK_block, ↓runK_loop, runK_loop, ↓runK_skip, runK_skip, ↓runK_ret, runK_ret, ↓runK_exit, runK_exit, ↓seqE_n, seqE_n, ↓seqE_e, seqE_e, ↓seqE_r, seqE_r, ↓blkE_n, blkE_n, ↓blkE_e, blkE_e, ↓blkE_r, blkE_r, ↓retK_n, retK_n, ↓retK_r, retK_r, ↓aCall_fn, aCall_fn, ↓bnd_s, bnd_s, ↓bnd2_s, bnd2_s, ↓onB_t, onB_t, ↓onB_f, onB_f, ↓onG_tt, onG_tt, ↓onG_tf, onG_tf, ↓onG_ft, onG_ft, ↓onG_ff, onG_ff, ↓onG_s, onG_s, ↓onT_t, onT_t, ↓aPick_t, aPick_t, ↓aPick_f, aPick_f, decide_true, decide_false, st_tmp, results1, results2, List.lookup_cons, List.lookup_nil, Nat.reduceBEq, Bool.false_eq_true, ↓reduceIte, BEq.rfl, Nat.reduceLT, Option.getD_some, Option.getD_none, ↓r5_0, r5_0, ↓r5_1, r5_1, J5_1_0, J5_1_1, J5_1_2, ↓r5_2, r5_2, ↓r5_3, r5_3, ↓r5_4, r5_4, ↓r5_5, r5_5, ↓r5_6, r5_6, ↓r5_7, r5_7, ↓r5_8, r5_8, ↓r5_9, r5_9, ↓r5_10, r5_10, J5_10_0, J5_10_1, J5_10_2, J5_10_3, J5_10_4, J5_10_5, J5_10_6, J5_10_7, J5_10_8, neq27, e3, rw1]
end Go.Ax
