/- An interpreter of Go code over a small abstract heap, proved sound against the model, and what the functions that WalSupers reaches compute (part 4); each theorem for the inputs that it names. -/
import Derived.Test.YtihjfpecjeplpaaWalSupersP3
set_option linter.unusedSimpArgs false
set_option linter.unusedVariables false

namespace Go.Ax
open Go Go.Proofs
def cleanLoop : Nat → Nat → Bool → Dk → Int × Bool × Dk
  | 0, _, s, d => (0, s, d)
  | m + 1, i, s, d =>
    if ((d.now[i]?).getD []).all (· == 0) then cleanLoop m (i + 1) s d
    else if (d.write i []).1 = 0 then cleanLoop m (i + 1) true (d.write i []).2
    else ((d.write i []).1, s, (d.write i []).2)
theorem cleanLoop_zero (i : Nat) (s : Bool) (d : Dk) : cleanLoop 0 i s d = (0, s, d) := rfl
theorem cleanLoop_blank {m i : Nat} {s : Bool} {d : Dk} (h : ((d.now[i]?).getD []).all (· == 0) = true) : cleanLoop (m + 1) i s d = cleanLoop m (i + 1) s d := if_pos h
theorem cleanLoop_go {m i : Nat} {s : Bool} {d : Dk} (h : ((d.now[i]?).getD []).all (· == 0) = false) (h2 : (d.write i []).1 = 0) : cleanLoop (m + 1) i s d = cleanLoop m (i + 1) true (d.write i []).2 := by
  rw [cleanLoop, if_neg (by simp [h]), if_pos h2]
theorem cleanLoop_no {m i : Nat} {s : Bool} {d : Dk} (h : ((d.now[i]?).getD []).all (· == 0) = false) (h2 : (d.write i []).1 ≠ 0) : cleanLoop (m + 1) i s d = ((d.write i []).1, s, (d.write i []).2) := by
  rw [cleanLoop, if_neg (by simp [h]), if_neg h2]
theorem cleanLoop_loose : ∀ (m i : Nat) (s : Bool) (d : Dk), (cleanLoop m i s d).2.2.loose.length ≤ d.loose.length + m ∧ (cleanLoop m i s d).2.2.fuse ≤ d.fuse ∧ (cleanLoop m i s d).2.2.lasts.length = d.lasts.length := by
  intro m
  induction m with
  | zero => intro i s d; simp [cleanLoop]
  | succ m ih =>
    intro i s d
    cases hz : ((d.now[i]?).getD []).all (· == 0)
    · by_cases hw : (d.write i []).1 = 0
      · rw [cleanLoop_go hz hw]
        have := ih (i + 1) true (d.write i []).2
        have h1 := write_loose d i []
        have h2 := write_fuse d i []
        have h3 := write_len d i []
        omega
      · rw [cleanLoop_no hz hw]
        have h1 := write_loose d i []
        have h2 := write_fuse d i []
        have h3 := write_len d i []
        simp only
        omega
    · rw [cleanLoop_blank hz]
      have := ih (i + 1) s d
      omega
theorem clean_loop {S : Obs} {p r : Nat} (e : Int) (N : Nat) :
    ∀ (m i n : Nat) (s : Bool) (d : Dk) (h : Heap), m = (min e d.lasts.length - i).toNat → m < n → Up S h → Dsk S h p r d → d.loose.length + m < 2 ^ 29 → d.loose.length + m + 10 < N → d.fuse < 2 ^ 63 →
    ∃ h' j, (∀ K : Ex → List AV → Heap → Option (AV × Heap), loopK (fun next => runK C0 (exFn C0 E0 (N + 3)) false 19 (N + 3) B19_1 (seqE next K)) n (st 41 [(0, dp p), (2, .int .i64 e), (7, .bool s), (8, .int .i64 i)]) h =
      if (cleanLoop m i s d).1 = 0 then K (.exit 0) (st 41 [(0, dp p), (2, .int .i64 e), (7, .bool (cleanLoop m i s d).2.1), (8, j), (19, .bool false)]) h'
      else K .ret (st 41 [(6, .int .i64 (cleanLoop m i s d).1)]) h') ∧
      Dsk S h' p r (cleanLoop m i s d).2.2 ∧ Keep S h h' := by
  intro m
  induction m with
  | zero =>
    intro i n s d h hm hn up D hl hN hf
    obtain ⟨n, rfl⟩ : ∃ j, n = j + 1 := ⟨n - 1, by omega⟩
    rw [cleanLoop_zero]
    refine ⟨h, .int .i64 i, fun K => ?_, D, Keep.refl _ _⟩
    rw [if_pos rfl, loopK_succ]
    generalize loopK (_ : (List AV → Heap → Option (AV × Heap)) → List AV → Heap → Option (AV × Heap)) n = Lp
    have lk := len_ok D false (N + 2)
    have e1 : decide ((i : Int) < (if ((d.lasts.length : Nat) : Int) < e then ((d.lasts.length : Nat) : Int) else e)) = false := decide_eq_false (by split <;> omega)
    simp -implicitDefEqProofs only [B19_1, ↓runK_seq, runK_seq, ↓runK_cond, runK_cond, ↓runK_block, runK_block, ↓runK_loop, runK_loop, ↓runK_skip, runK_skip, ↓runK_ret, runK_ret, ↓runK_exit, runK_exit, ↓seqE_n, seqE_n, ↓seqE_e, seqE_e, ↓seqE_r, seqE_r, ↓blkE_n, blkE_n, ↓blkE_e, blkE_e, ↓blkE_r, blkE_r, ↓retK_n, retK_n, ↓retK_r, retK_r, ↓aCall_fn, aCall_fn, ↓bnd_s, bnd_s, ↓bnd2_s, bnd2_s, ↓onB_t, onB_t, ↓onB_f, onB_f, ↓onG_tt, onG_tt, ↓onG_tf, onG_tf, ↓onG_ft, onG_ft, ↓onG_ff, onG_ff, ↓onG_s, onG_s, ↓onT_t, onT_t, ↓aPick_t, aPick_t, ↓aPick_f, aPick_f, decide_true, decide_false, st_tmp, results1, results2, List.lookup_cons, List.lookup_nil, Nat.reduceBEq, Bool.false_eq_true, ↓reduceIte, BEq.rfl, Nat.reduceLT, Option.getD_some, Option.getD_none, ↓r19_0, r19_0, ↓r19_1, r19_1, ↓r19_2, r19_2, ↓r19_3, r19_3, ↓r19_4a, r19_4a, ↓r19_4b, r19_4b, ↓r19_5, r19_5, ↓r19_6, r19_6, ↓r19_7, r19_7, ↓r19_8, r19_8, ↓r19_9, r19_9, ↓r19_10, r19_10, ↓r19_11, r19_11, ↓r19_12, r19_12, ↓r19_13, r19_13, lk, min2_i64, bin_lss, e1]
  | succ m ih =>
    intro i n s d h hm hn up D hl hN hf
    obtain ⟨n, rfl⟩ : ∃ j, n = j + 1 := ⟨n - 1, by omega⟩
    have hfew := D.few
    have lk := len_ok D false (N + 2)
    have e1 : decide ((i : Int) < (if ((d.lasts.length : Nat) : Int) < e then ((d.lasts.length : Nat) : Int) else e)) = true := decide_eq_true (by split <;> omega)
    have hlt : i < d.now.length := by rw [D.now_length]; omega
    have wr : IntKind.i64.wrap ((i : Int) + 1) = ((i + 1 : Nat) : Int) := by rw [wrap_i64] <;> omega
    obtain ⟨y, h1, r1, r2, r3⟩ := read_ok D (by omega) (i : Int) (N + 2) (by omega)
    have hrd : d.read (i : Int) = ((d.now[i]?).getD [], 0) := by
      unfold Dk.read
      rw [if_pos ⟨by omega, by rw [D.now_length] at hlt; omega⟩, Int.toNat_natCast]
    rw [hrd] at r1 r2
    have bs : Bs y ((d.now[i]?).getD []) := r2.bs
    have D1 := D.fresh r3
    have up1 := up.keep r3
    have z1 := zero_ok bs false h1 N
    cases hz : ((d.now[i]?).getD []).all (· == 0)
    · rw [hz] at z1
      obtain ⟨h2, w1, D2, k2⟩ := write_ok D1 up1 (i : Int) (x := .nils) (b := []) (U := fun _ => False) (.inl (.inl ⟨rfl, rfl⟩)) (fun _ _ h => h.elim) (by omega) hf N
      have a1 := write_loose d i []
      have a2 := write_fuse d i []
      have a3 := write_len d i []
      have kk := (r3.up up).trans k2
      by_cases hw : (d.write i []).1 = 0
      · rw [cleanLoop_go hz hw]
        obtain ⟨h3, j, g1, g2, g3⟩ := ih (i + 1) n true _ h2 (by omega) (by omega) (up1.keep k2) D2 (by omega) (by omega) (by omega)
        refine ⟨h3, j, fun K => ?_, g2, kk.trans g3⟩
        rw [loopK_succ, ← g1 K]
        generalize loopK (_ : (List AV → Heap → Option (AV × Heap)) → List AV → Heap → Option (AV × Heap)) n = Lp
        rw [hw] at w1
        have c0 : decide ((0 : Int) ≠ 0) = false := by decide
        simp -implicitDefEqProofs only [B19_1, ↓runK_seq, runK_seq, ↓runK_cond, runK_cond, ↓runK_block, runK_block, ↓runK_loop, runK_loop, ↓runK_skip, runK_skip, ↓runK_ret, runK_ret, ↓runK_exit, runK_exit, ↓seqE_n, seqE_n, ↓seqE_e, seqE_e, ↓seqE_r, seqE_r, ↓blkE_n, blkE_n, ↓blkE_e, blkE_e, ↓blkE_r, blkE_r, ↓retK_n, retK_n, ↓retK_r, retK_r, ↓aCall_fn, aCall_fn, ↓bnd_s, bnd_s, ↓bnd2_s, bnd2_s, ↓onB_t, onB_t, ↓onB_f, onB_f, ↓onG_tt, onG_tt, ↓onG_tf, onG_tf, ↓onG_ft, onG_ft, ↓onG_ff, onG_ff, ↓onG_s, onG_s, ↓onT_t, onT_t, ↓aPick_t, aPick_t, ↓aPick_f, aPick_f, decide_true, decide_false, st_tmp, results1, results2, List.lookup_cons, List.lookup_nil, Nat.reduceBEq, Bool.false_eq_true, ↓reduceIte, BEq.rfl, Nat.reduceLT, Option.getD_some, Option.getD_none, ↓r19_0, r19_0, ↓r19_1, r19_1, ↓r19_2, r19_2, ↓r19_3, r19_3, ↓r19_4a, r19_4a, ↓r19_4b, r19_4b, ↓r19_5, r19_5, ↓r19_6, r19_6, ↓r19_7, r19_7, ↓r19_8, r19_8, ↓r19_9, r19_9, ↓r19_10, r19_10, ↓r19_11, r19_11, ↓r19_12, r19_12, ↓r19_13, r19_13, lk, min2_i64, bin_lss, e1, r1, ext0, ext1, z1, un_not, Bool.not_false, w1, neq27, c0, bin_add, wr]
      · rw [cleanLoop_no hz hw]
        refine ⟨h2, .undef, fun K => ?_, D2, kk⟩
        rw [if_neg hw, loopK_succ]
        generalize loopK (_ : (List AV → Heap → Option (AV × Heap)) → List AV → Heap → Option (AV × Heap)) n = Lp
        have c0 : decide ((d.write (i : Int) []).1 ≠ 0) = true := decide_eq_true hw
        simp -implicitDefEqProofs only [B19_1, ↓runK_seq, runK_seq, ↓runK_cond, runK_cond, ↓runK_block, runK_block, ↓runK_loop, runK_loop, ↓runK_skip, runK_skip, ↓runK_ret, runK_ret, ↓runK_exit, runK_exit, ↓seqE_n, seqE_n, ↓seqE_e, seqE_e, ↓seqE_r, seqE_r, ↓blkE_n, blkE_n, ↓blkE_e, blkE_e, ↓blkE_r, blkE_r, ↓retK_n, retK_n, ↓retK_r, retK_r, ↓aCall_fn, aCall_fn, ↓bnd_s, bnd_s, ↓bnd2_s, bnd2_s, ↓onB_t, onB_t, ↓onB_f, onB_f, ↓onG_tt, onG_tt, ↓onG_tf, onG_tf, ↓onG_ft, onG_ft, ↓onG_ff, onG_ff, ↓onG_s, onG_s, ↓onT_t, onT_t, ↓aPick_t, aPick_t, ↓aPick_f, aPick_f, decide_true, decide_false, st_tmp, results1, results2, List.lookup_cons, List.lookup_nil, Nat.reduceBEq, Bool.false_eq_true, ↓reduceIte, BEq.rfl, Nat.reduceLT, Option.getD_some, Option.getD_none, ↓r19_0, r19_0, ↓r19_1, r19_1, ↓r19_2, r19_2, ↓r19_3, r19_3, ↓r19_4a, r19_4a, ↓r19_4b, r19_4b, ↓r19_5, r19_5, ↓r19_6, r19_6, ↓r19_7, r19_7, ↓r19_8, r19_8, ↓r19_9, r19_9, ↓r19_10, r19_10, ↓r19_11, r19_11, ↓r19_12, r19_12, ↓r19_13, r19_13, lk, min2_i64, bin_lss, e1, r1, ext0, ext1, z1, un_not, Bool.not_false, w1, neq27, c0]
    · rw [hz] at z1
      rw [cleanLoop_blank hz]
      obtain ⟨h3, j, g1, g2, g3⟩ := ih (i + 1) n s d h1 (by omega) (by omega) up1 D1 (by omega) (by omega) hf
      refine ⟨h3, j, fun K => ?_, g2, (r3.up up).trans g3⟩
      rw [loopK_succ, ← g1 K]
      generalize loopK (_ : (List AV → Heap → Option (AV × Heap)) → List AV → Heap → Option (AV × Heap)) n = Lp
      simp -implicitDefEqProofs only [B19_1, ↓runK_seq, runK_seq, ↓runK_cond, runK_cond, ↓runK_block, runK_block, ↓runK_loop, runK_loop, ↓runK_skip, runK_skip, ↓runK_ret, runK_ret, ↓runK_exit, runK_exit, ↓seqE_n, seqE_n, ↓seqE_e, seqE_e, ↓seqE_r, seqE_r, ↓blkE_n, blkE_n, ↓blkE_e, blkE_e, ↓blkE_r, blkE_r, ↓retK_n, retK_n, ↓retK_r, retK_r, ↓aCall_fn, aCall_fn, ↓bnd_s, bnd_s, ↓bnd2_s, bnd2_s, ↓onB_t, onB_t, ↓onB_f, onB_f, ↓onG_tt, onG_tt, ↓onG_tf, onG_tf, ↓onG_ft, onG_ft, ↓onG_ff, onG_ff, ↓onG_s, onG_s, ↓onT_t, onT_t, ↓aPick_t, aPick_t, ↓aPick_f, aPick_f, decide_true, decide_false, st_tmp, results1, results2, List.lookup_cons, List.lookup_nil, Nat.reduceBEq, Bool.false_eq_true, ↓reduceIte, BEq.rfl, Nat.reduceLT, Option.getD_some, Option.getD_none, ↓r19_0, r19_0, ↓r19_1, r19_1, ↓r19_2, r19_2, ↓r19_3, r19_3, ↓r19_4a, r19_4a, ↓r19_4b, r19_4b, ↓r19_5, r19_5, ↓r19_6, r19_6, ↓r19_7, r19_7, ↓r19_8, r19_8, ↓r19_9, r19_9, ↓r19_10, r19_10, ↓r19_11, r19_11, ↓r19_12, r19_12, ↓r19_13, r19_13, lk, min2_i64, bin_lss, e1, r1, ext0, ext1, z1, un_not, Bool.not_true, bin_add, wr]
def Dk.clean (d : Dk) (a e : Int) : Int × Dk :=
  let r := cleanLoop (min e d.lasts.length - max a 0).toNat (max a 0).toNat false d
  if r.1 ≠ 0 then (r.1, r.2.2) else if r.2.1 then r.2.2.flush else (0, r.2.2)
theorem clean_ok {S : Obs} {p r : Nat} {h : Heap} {d : Dk} (D : Dsk S h p r d) (up : Up S h) (hl : d.loose.length < 2 ^ 28) (hf : d.fuse < 2 ^ 63) (a e : Int) (k : Nat) (hk : d.loose.length + 9000 < k) :
    ∃ h', exFn C0 E0 (k + 1) false 19 [dp p, .int .i64 a, .int .i64 e] h = some (.int .i64 (d.clean a e).1, h') ∧ Dsk S h' p r (d.clean a e).2 ∧ Keep S h h' := by
  obtain ⟨k, rfl⟩ : ∃ j, k = j + 3 := ⟨k - 3, by omega⟩
  have hfew := D.few
  have n0 : ([dp p, .int .i64 a, .int .i64 e] ++ List.replicate (41 - [dp p, AV.int .i64 a, .int .i64 e].length) AV.undef) = st 41 [(0, dp p), (1, .int .i64 a), (2, .int .i64 e)] := rfl
  have mx : (if a < 0 then 0 else a) = (((max a 0).toNat : Nat) : Int) := by split <;> omega
  have hcl := cleanLoop_loose (min e d.lasts.length - max a 0).toNat (max a 0).toNat false d
  obtain ⟨h1, j, f1, f2, f3⟩ := clean_loop (S := S) (p := p) (r := r) e k (min e d.lasts.length - max a 0).toNat (max a 0).toNat (k + 3) false d h (by omega) (by omega) up D (by omega) (by omega) hf
  unfold Dk.clean
  generalize hL : cleanLoop (min e d.lasts.length - max a 0).toNat (max a 0).toNat false d = L at *
  obtain ⟨le, ls, ld⟩ := L
  simp only at f1 f2 hcl ⊢
  by_cases z1 : le = 0
  · subst z1
    rw [if_neg (fun h => h rfl)]
    simp only [if_true] at f1
    cases ls
    · rw [if_neg Bool.false_ne_true]
      refine ⟨h1, exFn_of e19 ?_, f2, f3⟩
      rw [fnK, n0, s19]
      simp -implicitDefEqProofs only [↓runK_seq, runK_seq, ↓runK_cond, runK_cond, ↓runK_block, runK_block, ↓runK_loop, runK_loop, ↓runK_skip, runK_skip, ↓runK_ret, runK_ret, ↓runK_exit, runK_exit, ↓seqE_n, seqE_n, ↓seqE_e, seqE_e, ↓seqE_r, seqE_r, ↓blkE_n, blkE_n, ↓blkE_e, blkE_e, ↓blkE_r, blkE_r, ↓retK_n, retK_n, ↓retK_r, retK_r, ↓aCall_fn, aCall_fn, ↓bnd_s, bnd_s, ↓bnd2_s, bnd2_s, ↓onB_t, onB_t, ↓onB_f, onB_f, ↓onG_tt, onG_tt, ↓onG_tf, onG_tf, ↓onG_ft, onG_ft, ↓onG_ff, onG_ff, ↓onG_s, onG_s, ↓onT_t, onT_t, ↓aPick_t, aPick_t, ↓aPick_f, aPick_f, decide_true, decide_false, st_tmp, results1, results2, List.lookup_cons, List.lookup_nil, Nat.reduceBEq, Bool.false_eq_true, ↓reduceIte, BEq.rfl, Nat.reduceLT, Option.getD_some, Option.getD_none, ↓r19_0, r19_0, ↓r19_1, r19_1, ↓r19_2, r19_2, ↓r19_3, r19_3, ↓r19_4a, r19_4a, ↓r19_4b, r19_4b, ↓r19_5, r19_5, ↓r19_6, r19_6, ↓r19_7, r19_7, ↓r19_8, r19_8, ↓r19_9, r19_9, ↓r19_10, r19_10, ↓r19_11, r19_11, ↓r19_12, r19_12, ↓r19_13, r19_13, max2_i64, mx]
      rw [f1]
      simp -implicitDefEqProofs only [↓runK_seq, runK_seq, ↓runK_cond, runK_cond, ↓runK_block, runK_block, ↓runK_loop, runK_loop, ↓runK_skip, runK_skip, ↓runK_ret, runK_ret, ↓runK_exit, runK_exit, ↓seqE_n, seqE_n, ↓seqE_e, seqE_e, ↓seqE_r, seqE_r, ↓blkE_n, blkE_n, ↓blkE_e, blkE_e, ↓blkE_r, blkE_r, ↓retK_n, retK_n, ↓retK_r, retK_r, ↓aCall_fn, aCall_fn, ↓bnd_s, bnd_s, ↓bnd2_s, bnd2_s, ↓onB_t, onB_t, ↓onB_f, onB_f, ↓onG_tt, onG_tt, ↓onG_tf, onG_tf, ↓onG_ft, onG_ft, ↓onG_ff, onG_ff, ↓onG_s, onG_s, ↓onT_t, onT_t, ↓aPick_t, aPick_t, ↓aPick_f, aPick_f, decide_true, decide_false, st_tmp, results1, results2, List.lookup_cons, List.lookup_nil, Nat.reduceBEq, Bool.false_eq_true, ↓reduceIte, BEq.rfl, Nat.reduceLT, Option.getD_some, Option.getD_none, ↓r19_0, r19_0, ↓r19_1, r19_1, ↓r19_2, r19_2, ↓r19_3, r19_3, ↓r19_4a, r19_4a, ↓r19_4b, r19_4b, ↓r19_5, r19_5, ↓r19_6, r19_6, ↓r19_7, r19_7, ↓r19_8, r19_8, ↓r19_9, r19_9, ↓r19_10, r19_10, ↓r19_11, r19_11, ↓r19_12, r19_12, ↓r19_13, r19_13, un_not, Bool.not_false]
    · rw [if_pos rfl]
      obtain ⟨h2, g1, g2, g3⟩ := flush_ok f2 (up.keep f3) (by omega) (by omega) false (k + 2) (by omega)
      refine ⟨h2, exFn_of e19 ?_, g2, f3.trans g3⟩
      rw [fnK, n0, s19]
      simp -implicitDefEqProofs only [↓runK_seq, runK_seq, ↓runK_cond, runK_cond, ↓runK_block, runK_block, ↓runK_loop, runK_loop, ↓runK_skip, runK_skip, ↓runK_ret, runK_ret, ↓runK_exit, runK_exit, ↓seqE_n, seqE_n, ↓seqE_e, seqE_e, ↓seqE_r, seqE_r, ↓blkE_n, blkE_n, ↓blkE_e, blkE_e, ↓blkE_r, blkE_r, ↓retK_n, retK_n, ↓retK_r, retK_r, ↓aCall_fn, aCall_fn, ↓bnd_s, bnd_s, ↓bnd2_s, bnd2_s, ↓onB_t, onB_t, ↓onB_f, onB_f, ↓onG_tt, onG_tt, ↓onG_tf, onG_tf, ↓onG_ft, onG_ft, ↓onG_ff, onG_ff, ↓onG_s, onG_s, ↓onT_t, onT_t, ↓aPick_t, aPick_t, ↓aPick_f, aPick_f, decide_true, decide_false, st_tmp, results1, results2, List.lookup_cons, List.lookup_nil, Nat.reduceBEq, Bool.false_eq_true, ↓reduceIte, BEq.rfl, Nat.reduceLT, Option.getD_some, Option.getD_none, ↓r19_0, r19_0, ↓r19_1, r19_1, ↓r19_2, r19_2, ↓r19_3, r19_3, ↓r19_4a, r19_4a, ↓r19_4b, r19_4b, ↓r19_5, r19_5, ↓r19_6, r19_6, ↓r19_7, r19_7, ↓r19_8, r19_8, ↓r19_9, r19_9, ↓r19_10, r19_10, ↓r19_11, r19_11, ↓r19_12, r19_12, ↓r19_13, r19_13, max2_i64, mx]
      rw [f1]
      simp -implicitDefEqProofs only [↓runK_seq, runK_seq, ↓runK_cond, runK_cond, ↓runK_block, runK_block, ↓runK_loop, runK_loop, ↓runK_skip, runK_skip, ↓runK_ret, runK_ret, ↓runK_exit, runK_exit, ↓seqE_n, seqE_n, ↓seqE_e, seqE_e, ↓seqE_r, seqE_r, ↓blkE_n, blkE_n, ↓blkE_e, blkE_e, ↓blkE_r, blkE_r, ↓retK_n, retK_n, ↓retK_r, retK_r, ↓aCall_fn, aCall_fn, ↓bnd_s, bnd_s, ↓bnd2_s, bnd2_s, ↓onB_t, onB_t, ↓onB_f, onB_f, ↓onG_tt, onG_tt, ↓onG_tf, onG_tf, ↓onG_ft, onG_ft, ↓onG_ff, onG_ff, ↓onG_s, onG_s, ↓onT_t, onT_t, ↓aPick_t, aPick_t, ↓aPick_f, aPick_f, decide_true, decide_false, st_tmp, results1, results2, List.lookup_cons, List.lookup_nil, Nat.reduceBEq, Bool.false_eq_true, ↓reduceIte, BEq.rfl, Nat.reduceLT, Option.getD_some, Option.getD_none, ↓r19_0, r19_0, ↓r19_1, r19_1, ↓r19_2, r19_2, ↓r19_3, r19_3, ↓r19_4a, r19_4a, ↓r19_4b, r19_4b, ↓r19_5, r19_5, ↓r19_6, r19_6, ↓r19_7, r19_7, ↓r19_8, r19_8, ↓r19_9, r19_9, ↓r19_10, r19_10, ↓r19_11, r19_11, ↓r19_12, r19_12, ↓r19_13, r19_13, un_not, Bool.not_true, g1]
  · rw [if_pos z1]
    refine ⟨h1, exFn_of e19 ?_, f2, f3⟩
    rw [fnK, n0, s19]
    simp -implicitDefEqProofs only [↓runK_seq, runK_seq, ↓runK_cond, runK_cond, ↓runK_block, runK_block, ↓runK_loop, runK_loop, ↓runK_skip, runK_skip, ↓runK_ret, runK_ret, ↓runK_exit, runK_exit, ↓seqE_n, seqE_n, ↓seqE_e, seqE_e, ↓seqE_r, seqE_r, ↓blkE_n, blkE_n, ↓blkE_e, blkE_e, ↓blkE_r, blkE_r, ↓retK_n, retK_n, ↓retK_r, retK_r, ↓aCall_fn, aCall_fn, ↓bnd_s, bnd_s, ↓bnd2_s, bnd2_s, ↓onB_t, onB_t, ↓onB_f, onB_f, ↓onG_tt, onG_tt, ↓onG_tf, onG_tf, ↓onG_ft, onG_ft, ↓onG_ff, onG_ff, ↓onG_s, onG_s, ↓onT_t, onT_t, ↓aPick_t, aPick_t, ↓aPick_f, aPick_f, decide_true, decide_false, st_tmp, results1, results2, List.lookup_cons, List.lookup_nil, Nat.reduceBEq, Bool.false_eq_true, ↓reduceIte, BEq.rfl, Nat.reduceLT, Option.getD_some, Option.getD_none, ↓r19_0, r19_0, ↓r19_1, r19_1, ↓r19_2, r19_2, ↓r19_3, r19_3, ↓r19_4a, r19_4a, ↓r19_4b, r19_4b, ↓r19_5, r19_5, ↓r19_6, r19_6, ↓r19_7, r19_7, ↓r19_8, r19_8, ↓r19_9, r19_9, ↓r19_10, r19_10, ↓r19_11, r19_11, ↓r19_12, r19_12, ↓r19_13, r19_13, max2_i64, mx]
    rw [f1, if_neg z1]
    simp -implicitDefEqProofs only [↓runK_seq, runK_seq, ↓runK_cond, runK_cond, ↓runK_block, runK_block, ↓runK_loop, runK_loop, ↓runK_skip, runK_skip, ↓runK_ret, runK_ret, ↓runK_exit, runK_exit, ↓seqE_n, seqE_n, ↓seqE_e, seqE_e, ↓seqE_r, seqE_r, ↓blkE_n, blkE_n, ↓blkE_e, blkE_e, ↓blkE_r, blkE_r, ↓retK_n, retK_n, ↓retK_r, retK_r, ↓aCall_fn, aCall_fn, ↓bnd_s, bnd_s, ↓bnd2_s, bnd2_s, ↓onB_t, onB_t, ↓onB_f, onB_f, ↓onG_tt, onG_tt, ↓onG_tf, onG_tf, ↓onG_ft, onG_ft, ↓onG_ff, onG_ff, ↓onG_s, onG_s, ↓onT_t, onT_t, ↓aPick_t, aPick_t, ↓aPick_f, aPick_f, decide_true, decide_false, st_tmp, results1, results2, List.lookup_cons, List.lookup_nil, Nat.reduceBEq, Bool.false_eq_true, ↓reduceIte, BEq.rfl, Nat.reduceLT, Option.getD_some, Option.getD_none]
end Go.Ax

namespace Go.Ax
open Go Go.Proofs
inductive LsL : List AV → List (Nat × List UInt8) → Prop
  | nil : LsL [] []
  | cons {v w vs ws} : Bs v w.2 → LsL vs ws → LsL (.agg 111 [.int .i64 w.1, v] :: vs) (w :: ws)
theorem LsL.length : ∀ {l : List AV} {m : List (Nat × List UInt8)}, LsL l m → l.length = m.length
  | _, _, .nil => rfl
  | _, _, .cons _ t => by simp [LsL.length t]
theorem LsL.append : ∀ {l l' : List AV} {m m' : List (Nat × List UInt8)}, LsL l m → LsL l' m' → LsL (l ++ l') (m ++ m')
  | _, _, _, _, .nil, h => h
  | _, _, _, _, .cons a t, h => .cons a (LsL.append t h)
theorem LsL.get : ∀ {vs : List AV} {ws : List (Nat × List UInt8)}, LsL vs ws → ∀ {i : Nat} {w : Nat × List UInt8}, ws[i]? = some w → ∃ v, vs[i]? = some (.agg 111 [.int .i64 w.1, v]) ∧ Bs v w.2
  | _, _, .nil, i, l, h => by simp at h
  | _, _, .cons a t, 0, l, h => by simp at h; subst h; exact ⟨_, rfl, a⟩
  | _, _, .cons a t, i + 1, l, h => by simpa using t.get (i := i) (by simpa using h)
theorem BsL.set : ∀ {vs : List AV} {ls : List (List UInt8)} {v : AV} {l : List UInt8}, BsL vs ls → ∀ (i : Nat), Bs v l → BsL (vs.set i v) (ls.set i l)
  | _, _, _, _, .nil, _, _ => .nil
  | _, _, _, _, .cons _ t, 0, h => .cons h t
  | _, _, _, _, .cons a t, i + 1, h => .cons a (t.set i h)
def sAV (r n : Nat) : AV := if n = 0 then .nils else .msl r [] 22 0 n
def rv (r n : Nat) (x : AV) (f : Int) (w : Bool) : Obj := .var 74 (.agg 73 [sAV r n, x, .int .i64 f, .bool w])
structure Rsk (S : Obs) (h : Heap) (p r : Nat) (d : Dk) : Prop where
  hp : S p
  hr : d.lasts ≠ [] → S r
  var : ∃ x vs, h[p]? = some (rv r d.lasts.length x d.fuse d.down) ∧ Ap 111 S h x vs ∧ LsL vs d.loose
  row : d.lasts ≠ [] → ∃ vs, h[r]? = some (.row 22 vs) ∧ BsL vs d.lasts
  cells : ∀ b ∈ d.lasts, b.length = 64
  loose : ∀ w ∈ d.loose, w.1 < d.lasts.length ∧ w.2.length = 64
  few : d.lasts.length ≤ 1024
theorem Rsk.keep {S U : Obs} {h h' : Heap} {p r : Nat} {d : Dk} (D : Rsk S h p r d) (k : Keep U h h') (hd : ∀ i, i < h.length → S i → ¬ U i) : Rsk S h' p r d := by
  obtain ⟨x, vs, hx, ha, hl⟩ := D.var
  refine ⟨D.hp, D.hr, ⟨x, vs, ?_, ha.keep k hd, hl⟩, fun hne => ?_, D.cells, D.loose, D.few⟩
  · rw [k.2 p (hd p (List.getElem?_eq_some_iff.1 hx).1 D.hp)]; exact hx
  · obtain ⟨us, hr, hb⟩ := D.row hne
    exact ⟨us, by rw [k.2 r (hd r (List.getElem?_eq_some_iff.1 hr).1 (D.hr hne))]; exact hr, hb⟩
theorem Rsk.fresh {S : Obs} {h h' : Heap} {p r : Nat} {d : Dk} (D : Rsk S h p r d) (k : Keep (From h.length) h h') : Rsk S h' p r d := D.keep k fun _ hi _ hj => Nat.not_le.2 hi hj
theorem Rsk.mono {S U : Obs} {h : Heap} {p r : Nat} {d : Dk} (D : Rsk S h p r d) (hs : ∀ i, S i → U i) : Rsk U h p r d := by
  obtain ⟨x, vs, hx, ha, hl⟩ := D.var
  exact ⟨hs _ D.hp, fun e => hs _ (D.hr e), ⟨x, vs, hx, ha.mono hs, hl⟩, D.row, D.cells, D.loose, D.few⟩
section fields
variable {h : Heap} {p r n : Nat} {x : AV} {f : Int} {w : Bool} (hp : h[p]? = some (rv r n x f w))
include hp
end fields
theorem lens (r n : Nat) : aLen tab 30 (sAV r n) = some (.int .i64 n) := by
  unfold sAV
  split
  · rename_i h; subst h; simp [aLen]
  · simp [aLen]
theorem Rsk.upd {S : Obs} {p r : Nat} {h : Heap} {d : Dk} (D : Rsk S h p r d) {x : AV} {vs : List AV} (hx : h[p]? = some (rv r d.lasts.length x d.fuse d.down)) (ha : Ap 111 S h x vs) (hl : LsL vs d.loose) (f : Int) (w : Bool) :
    Rsk S (h.set p (rv r d.lasts.length x f w)) p r { d with fuse := f, down := w } := by
  have hlt : p < h.length := (List.getElem?_eq_some_iff.1 hx).1
  refine ⟨D.hp, D.hr, ⟨x, vs, by simp [hlt], ha.at hx (by simp [rv]) fun i _ hi => List.getElem?_set_ne (by omega), hl⟩, fun hne => ?_, D.cells, D.loose, D.few⟩
  obtain ⟨us, hr, hb⟩ := D.row hne
  refine ⟨us, ?_, hb⟩
  rw [List.getElem?_set_ne]
  · exact hr
  · intro e
    subst e
    rw [hx] at hr
    cases hr
def Dk.rdown (d : Dk) : Dk := { d with fuse := d.fuse, down := true }
def Dk.rburn (d : Dk) : Dk := { d with fuse := if 0 < d.fuse then d.fuse - 1 else d.fuse, down := d.down }
def Dk.off (d : Dk) : Prop := d.down = true ∨ d.fuse = 0
instance (d : Dk) : Decidable d.off := by unfold Dk.off; infer_instance
def Dk.rwrite (d : Dk) (at' : Int) (b : List UInt8) : Int × Dk :=
  if ¬ d.has at' ∨ 64 < b.length then (1, d)
  else if d.off then (4, d.rdown)
  else (0, d.rburn.add (at'.toNat, pad b))
def Dk.rflush (d : Dk) : Int × Dk := if d.off then (4, d.rdown) else (0, ⟨d.now, [], d.rburn.fuse, d.down⟩)
theorem Rsk.add {S : Obs} {p r : Nat} {h h' : Heap} {d : Dk} (D : Rsk S h p r d) {w : Nat × List UInt8} {x : AV} {vs : List AV} (hw : w.1 < d.lasts.length ∧ w.2.length = 64)
    (ha : Ap 111 S h' x vs) (hv : LsL vs (d.loose ++ [w])) (hr : ∀ l, h[r]? = some (.row 22 l) → h'[r]? = some (.row 22 l)) {y : AV} (hp : h'[p]? = some (rv r d.lasts.length y d.fuse d.down)) :
    Rsk S (h'.set p (rv r d.lasts.length x d.fuse d.down)) p r (d.add w) := by
  have hlt : p < h'.length := (List.getElem?_eq_some_iff.1 hp).1
  refine ⟨D.hp, D.hr, ⟨x, vs, by simp [hlt, Dk.add], ha.at hp (fun g e => by cases e) fun i _ hi => List.getElem?_set_ne (by omega), hv⟩, fun hne => ?_, D.cells, ?_, D.few⟩
  · obtain ⟨us, hr0, hb⟩ := D.row hne
    have := hr _ hr0
    refine ⟨us, ?_, hb⟩
    rw [List.getElem?_set_ne]
    · exact this
    · intro e
      subst e
      rw [hp] at this
      cases this
  · intro v hv
    rcases List.mem_append.1 hv with hv | hv
    · exact D.loose v hv
    · simp only [List.mem_singleton] at hv; subst hv; exact hw
end Go.Ax

namespace Go.Ax
open Go Go.Proofs
def zv : AV := .vsl 5 ((List.replicate 64 (0 : UInt8)).map U8) .none
end Go.Ax

namespace Go.Ax
open Go Go.Proofs
theorem ApB.app {S : Obs} {h : Heap} {x : AV} {l : List UInt8} (a : ApB S h x l) (up : Up S h) (new : List UInt8) (hl : l.length + new.length < 2 ^ 40) :
    ∃ x' h', aAppend tab 5 false x (new.map U8) h = some (x', h') ∧ ApB S h' x' (l ++ new) ∧ Keep S h h' ∧ NoTok h h' := by
  cases new with
  | nil =>
    refine ⟨x, h, ?_, by simpa using a, Keep.refl _ _, fun _ _ h _ => h⟩
    rcases a with ⟨rfl, -⟩ | ⟨k, rfl, -⟩ <;> rfl
  | cons y ys => exact a.append up (by simp) hl
end Go.Ax

namespace Go.Ax
open Go Go.Proofs
theorem conv_i64_8 (v : Int) (h : Heap) : aConv tab 3 5 (.int .i64 v) h = some (.int .u8 (v % 256)) := by
  simp [aConv, wrap_u8]
theorem crcBit_odd {v : BitVec 32} (h : v.toNat % 2 = 1) : crcBit v = (v >>> 1) ^^^ 2197175160#32 := by
  have e : v &&& 1#32 = 1#32 := by
    apply BitVec.eq_of_toNat_eq
    rw [BitVec.toNat_and]
    simp only [BitVec.toNat_ofNat, Nat.reducePow, Nat.reduceMod, Nat.and_one_is_mod]
    exact h
  unfold crcBit
  rw [e]
  rfl
theorem crcBit_even {v : BitVec 32} (h : v.toNat % 2 = 0) : crcBit v = v >>> 1 := by
  have e : v &&& 1#32 = 0#32 := by
    apply BitVec.eq_of_toNat_eq
    rw [BitVec.toNat_and]
    simp only [BitVec.toNat_ofNat, Nat.reducePow, Nat.reduceMod, Nat.and_one_is_mod]
    exact h
  unfold crcBit
  rw [e]
  simp
end Go.Ax

namespace Go.Ax
open Go Go.Proofs
def Calm (l : List (List UInt8)) : Dk := ⟨l, [], -1, false⟩
def parts (a : Nat) (b : List UInt8) (i m : Nat) : List (Nat × List UInt8) := (List.range' i m).map fun j => (a + j, pad (chunk b j))
theorem parts_succ (a : Nat) (b : List UInt8) (i m : Nat) : parts a b i (m + 1) = (a + i, pad (chunk b i)) :: parts a b (i + 1) m := by
  simp [parts, List.range'_succ]
theorem parts_snoc (a : Nat) (b : List UInt8) (i m : Nat) : parts a b i (m + 1) = parts a b i m ++ [(a + (i + m), pad (chunk b (i + m)))] := by
  simp [parts, List.range'_concat]
theorem chunk_length (b : List UInt8) (i : Nat) : (chunk b i).length ≤ 64 := by unfold chunk; rw [List.length_take]; omega
theorem pad_length (b : List UInt8) (h : b.length ≤ 64) : (pad b).length = 64 := by unfold pad; simp; omega
theorem calm_write (l : List (List UInt8)) (ws : List (Nat × List UInt8)) (a : Nat) (b : List UInt8) (ha : a < l.length) (hb : b.length ≤ 64) :
    (⟨l, ws, -1, false⟩ : Dk).write a b = (0, ⟨l, ws ++ [(a, pad b)], -1, false⟩) := by
  unfold Dk.write
  rw [if_neg (by rintro (h | h); exact h ⟨by omega, by simpa using ha⟩; omega)]
  simp [Dk.burn, Dk.add]
theorem calm_flush (l : List (List UInt8)) (ws : List (Nat × List UInt8)) : (⟨l, ws, -1, false⟩ : Dk).flush = (0, Calm (land l ws)) := by
  simp [Dk.flush, Dk.burn, Dk.now, Calm]
theorem calm_loop (l : List (List UInt8)) (a : Nat) (b : List UInt8) : ∀ (m i : Nat) (ws : List (Nat × List UInt8)), a + i + m ≤ l.length →
    layLoop a b m i ⟨l, ws, -1, false⟩ = (0, ⟨l, ws ++ parts a b i m, -1, false⟩) := by
  intro m
  induction m with
  | zero => intro i ws _; simp [layLoop, parts]
  | succ m ih =>
    intro i ws h
    have e : ((a : Int) + i) = ((a + i : Nat) : Int) := by omega
    have w := calm_write l ws (a + i) (chunk b i) (by omega) (chunk_length b i)
    rw [layLoop_go (by rw [e, w]), e, w, ih (i + 1) _ (by omega), parts_succ]
    simp
def nOf (b : List UInt8) : Nat := (sizeOf b.length).toNat
theorem nOf_eq (b : List UInt8) : (nOf b : Int) = sizeOf b.length := by unfold nOf sizeOf; omega
theorem nOf_eq' (b : List UInt8) : nOf b = 1 + (b.length + 63) / 64 := by unfold nOf sizeOf; omega
theorem head16_length (g : BitVec 32) (b : List UInt8) : (head16 g b).length = 16 := by simp [head16, head12, be4]
def laid (l : List (List UInt8)) (a : Nat) (gen : Int) (b : List UInt8) : List (List UInt8) := land l (parts a b 1 (nOf b - 1) ++ [(a, pad (head16 (BitVec.ofInt 32 gen) b))])
theorem land_append (l : List (List UInt8)) (u v : List (Nat × List UInt8)) : land l (u ++ v) = land (land l u) v := by simp [land]
theorem lay_calm (l : List (List UInt8)) (a : Nat) (e gen : Int) (b : List UInt8) (hb : b.length ≤ 8192) (h0 : 0 ≤ gen) (h1 : gen ≤ 2147483647) (he : (a : Int) ≤ e) (hn : sizeOf b.length ≤ min e l.length - a) :
    (Calm l).lay a e gen b = ((((a + nOf b : Nat) : Int), 0), Calm (laid l a gen b)) := by
  have hn1 := nOf_eq b
  have hn2 := nOf_eq' b
  have hloop := calm_loop l a b (nOf b - 1) 1 [] (by omega)
  rw [lay_go (d := Calm l) (l := (0, ⟨l, parts a b 1 (nOf b - 1), -1, false⟩)) (by omega) (by show ¬ (_ ∨ min e (l.length : Int) - _ < _); omega) hloop]
  have hlen : (land l (parts a b 1 (nOf b - 1))).length = l.length := land_length _ _
  have w := calm_write (land l (parts a b 1 (nOf b - 1))) [] a (head16 (BitVec.ofInt 32 gen) b) (by omega) (by rw [head16_length]; omega)
  simp only [calm_flush]
  rw [show (Calm (land l (parts a b 1 (nOf b - 1)))) = ⟨land l (parts a b 1 (nOf b - 1)), [], -1, false⟩ from rfl, w]
  simp only [List.nil_append, calm_flush]
  rw [if_neg (fun h => h rfl), if_neg (fun h => h rfl), if_neg (fun h => h rfl), if_neg (fun h => h rfl), laid, land_append, ← hn1]
  simp
theorem land_parts (l : List (List UInt8)) (a : Nat) (b : List UInt8) (i : Nat) : ∀ (m j : Nat), a + i + m ≤ l.length →
    (land l (parts a b i m))[j]? = if a + i ≤ j ∧ j < a + i + m then some (pad (chunk b (j - a))) else l[j]? := by
  intro m
  induction m with
  | zero => intro j _; rw [if_neg (by omega)]; simp [parts, land]
  | succ m ih =>
    intro j h
    rw [parts_snoc, land_snoc]
    simp only
    by_cases hj : a + (i + m) = j
    · subst hj
      rw [List.getElem?_set_self (by rw [land_length]; omega), if_pos (by omega)]
      congr 3; omega
    · rw [List.getElem?_set_ne hj, ih j (by omega)]
      by_cases h2 : a + i ≤ j ∧ j < a + i + m
      · rw [if_pos h2, if_pos (by omega)]
      · rw [if_neg h2, if_neg (by omega)]
theorem laid_length (l : List (List UInt8)) (a : Nat) (gen : Int) (b : List UInt8) : (laid l a gen b).length = l.length := land_length _ _
theorem laid_head (l : List (List UInt8)) (a : Nat) (gen : Int) (b : List UInt8) (h : a < l.length) : (laid l a gen b)[a]? = some (pad (head16 (BitVec.ofInt 32 gen) b)) := by
  rw [laid, land_snoc]; simp [land_length, h]
theorem laid_get (l : List (List UInt8)) (a : Nat) (gen : Int) (b : List UInt8) (h : a + nOf b ≤ l.length) (j : Nat) (hj : j ≠ a) :
    (laid l a gen b)[j]? = if a < j ∧ j < a + nOf b then some (pad (chunk b (j - a))) else l[j]? := by
  have hn2 := nOf_eq' b
  rw [laid, land_snoc, List.getElem?_set_ne (by omega), land_parts l a b 1 _ j (by omega)]
  by_cases h2 : a < j ∧ j < a + nOf b
  · rw [if_pos h2, if_pos (by omega)]
  · rw [if_neg h2, if_neg (by omega)]
theorem all_zero (n : Nat) : (List.replicate n (0 : UInt8)).all (· == 0) = true := by simp
theorem body_chunks (now : List (List UInt8)) (a : Nat) (b : List UInt8) : ∀ m, 64 * m < b.length + 64 → (∀ j, 1 ≤ j → j ≤ m → now[a + j]? = some (pad (chunk b j))) →
    bodyAt now a m = b.take (64 * m) ++ List.replicate (64 * m - b.length) 0 := by
  intro m
  induction m with
  | zero => intro _ _; simp [bodyAt]
  | succ m ih =>
    intro hm hn
    rw [bodyAt_succ now a m _ (by rw [show a + 1 + m = a + (m + 1) by omega]; exact hn (m + 1) (by omega) (Nat.le_refl _)), ih (by omega) fun j h1 h2 => hn j h1 (by omega)]
    have z : 64 * m - b.length = 0 := by omega
    have tk : b.take (64 * (m + 1)) = b.take (64 * m) ++ chunk b (m + 1) := by
      rw [show 64 * (m + 1) = 64 * m + 64 by omega, List.take_add]; rfl
    have cl : (chunk b (m + 1)).length = min 64 (b.length - 64 * m) := by unfold chunk; simp
    rw [z, tk]
    unfold pad
    rw [cl, show 64 - min 64 (b.length - 64 * m) = 64 * (m + 1) - b.length by omega]
    simp
theorem one_at (now : List (List UInt8)) (a : Nat) (e gen : Int) (b : List UInt8) (hb : b.length ≤ 8192) (hh : now[a]? = some (pad (head16 (BitVec.ofInt 32 gen) b)))
    (he : (a : Int) < e) (hn : sizeOf b.length ≤ min e now.length - a) (hj : ∀ j, 1 ≤ j → j < nOf b → now[a + j]? = some (pad (chunk b j))) : oneOf now a e gen = some b := by
  have hn1 := nOf_eq b
  have hn2 := nOf_eq' b
  have hp : pad (head16 (BitVec.ofInt 32 gen) b) = be4 (BitVec.ofInt 32 gen) ++ (be4 (BitVec.ofNat 32 b.length) ++ (be4 (crc b) ++ (be4 (crc (head12 (BitVec.ofInt 32 gen) b)) ++ List.replicate 48 0))) := by
    unfold pad; rw [head16_length]; simp [head16, head12]
  have p0 : get4 (pad (head16 (BitVec.ofInt 32 gen) b)) = BitVec.ofInt 32 gen := by rw [hp, get4_be4]
  have p4 : get4 ((pad (head16 (BitVec.ofInt 32 gen) b)).drop 4) = BitVec.ofNat 32 b.length := by
    rw [hp, show ∀ (v : BitVec 32) r, (be4 v ++ r).drop 4 = r from fun _ _ => rfl, get4_be4]
  have p12 : get4 ((pad (head16 (BitVec.ofInt 32 gen) b)).drop 12) = crc (head12 (BitVec.ofInt 32 gen) b) := by
    rw [hp, show ∀ (u v w : BitVec 32) r, (be4 u ++ (be4 v ++ (be4 w ++ r))).drop 12 = r from fun _ _ _ _ => rfl, get4_be4]
  have t12 : (pad (head16 (BitVec.ofInt 32 gen) b)).take 12 = head12 (BitVec.ofInt 32 gen) b := by
    rw [hp]; rfl
  have t16 : (pad (head16 (BitVec.ofInt 32 gen) b)).take 16 = head16 (BitVec.ofInt 32 gen) b := by
    rw [hp]; rfl
  have d16 : (pad (head16 (BitVec.ofInt 32 gen) b)).drop 16 = List.replicate 48 0 := by
    rw [hp]; rfl
  have sz : (BitVec.ofNat 32 b.length).toNat = b.length := by simp; omega
  have bd := body_chunks now a b (nOf b - 1) (by omega) fun j h1 h2 => hj j h1 (by omega)
  rw [List.take_of_length_le (l := b) (by omega)] at bd
  have hgo := oneOf_go (now := now) (a := a) (nn := nOf b) (e := e) (gen := gen) hh (by rw [p0, t12, p12]; rintro (h | h | h); omega; exact h rfl; exact h rfl) (by rw [p4, sz]; omega) (by rw [p4, sz]; exact hn1.symm)
  rw [p4, sz] at hgo
  rw [hgo, bd, t16, d16, if_pos]
  · simp
  · refine ⟨by simp, all_zero _, ?_⟩
    simp
theorem crc_zero12 : crc (List.replicate 12 0) ≠ 0#32 := by decide +kernel
theorem one_blank (now : List (List UInt8)) (a : Nat) (e gen : Int) (hc : now[a]? = some (List.replicate 64 0)) : oneOf now a e gen = none := by
  refine oneOf_head hc (.inr ?_)
  by_cases h : get4 (List.replicate 64 0) = BitVec.ofInt 32 gen
  · right
    rw [List.take_replicate, List.drop_replicate]
    exact crc_zero12
  · exact .inl h
end Go.Ax

namespace Go.Ax
open Go Go.Proofs
def entryOf (gen : Int) (b : List UInt8) : List (List UInt8) := pad (head16 (BitVec.ofInt 32 gen) b) :: (List.range' 1 (nOf b - 1)).map fun j => pad (chunk b j)
theorem ApR.exact {S : Obs} {h : Heap} {v : AV} {b : List UInt8} (hv : Bs v b) : ApR S h (.vsl 22 [v] .exact) [b] := ⟨[v], .inr ⟨_, rfl, .inl rfl⟩, .cons hv .nil⟩
theorem ofInt_nat (n : Nat) : BitVec.ofInt 32 (n : Int) = BitVec.ofNat 32 n := by simp
end Go.Ax

namespace Go.Ax
open Go Go.Proofs
theorem blank_iff {l : List UInt8} (h : l.length = 64) : (l = List.replicate 64 0) ↔ l.all (· == 0) = true := by
  constructor
  · rintro rfl; simp
  · intro ha
    rw [← h]
    refine List.eq_replicate_iff.2 ⟨rfl, fun b hb => ?_⟩
    have := List.all_eq_true.1 ha b hb
    simpa using this
def rcleanLoop : Nat → Nat → Bool → Dk → Int × Bool × Dk
  | 0, _, s, d => (0, s, d)
  | m + 1, i, s, d =>
    if ((d.now[i]?).getD []).all (· == 0) then rcleanLoop m (i + 1) s d
    else if (d.rwrite i []).1 = 0 then rcleanLoop m (i + 1) true (d.rwrite i []).2
    else ((d.rwrite i []).1, s, (d.rwrite i []).2)
theorem rcleanLoop_blank {m i : Nat} {s : Bool} {d : Dk} (h : ((d.now[i]?).getD []).all (· == 0) = true) : rcleanLoop (m + 1) i s d = rcleanLoop m (i + 1) s d := if_pos h
theorem rcleanLoop_go {m i : Nat} {s : Bool} {d : Dk} (h : ((d.now[i]?).getD []).all (· == 0) = false) (h2 : (d.rwrite i []).1 = 0) : rcleanLoop (m + 1) i s d = rcleanLoop m (i + 1) true (d.rwrite i []).2 := by
  rw [rcleanLoop, if_neg (by simp [h]), if_pos h2]
theorem rcleanLoop_no {m i : Nat} {s : Bool} {d : Dk} (h : ((d.now[i]?).getD []).all (· == 0) = false) (h2 : (d.rwrite i []).1 ≠ 0) : rcleanLoop (m + 1) i s d = ((d.rwrite i []).1, s, (d.rwrite i []).2) := by
  rw [rcleanLoop, if_neg (by simp [h]), if_neg h2]
theorem Rsk.now_length {S : Obs} {h : Heap} {p r : Nat} {d : Dk} (_ : Rsk S h p r d) : d.now.length = d.lasts.length := land_length _ _
theorem Rsk.now_cells {S : Obs} {h : Heap} {p r : Nat} {d : Dk} (D : Rsk S h p r d) : ∀ b ∈ d.now, b.length = 64 := land_cells _ _ D.cells fun w hw => (D.loose w hw).2
def Dk.rclean (d : Dk) (a e : Int) : Int × Dk :=
  let r := rcleanLoop (min e d.lasts.length - max a 0).toNat (max a 0).toNat false d
  if r.1 ≠ 0 then (r.1, r.2.2) else if r.2.1 then r.2.2.rflush else (0, r.2.2)
end Go.Ax

namespace Go.Ax
open Go Go.Proofs
structure DkEq (d v : Dk) : Prop where
  lasts : d.lasts = v.lasts
  loose : d.loose = v.loose
  down : d.down = v.down
  fuse : d.down = false → d.fuse = v.fuse
theorem DkEq.now {d v : Dk} (e : DkEq d v) : d.now = v.now := by unfold Dk.now; rw [e.lasts, e.loose]
theorem DkEq.has {d v : Dk} (e : DkEq d v) (i : Int) : d.has i ↔ v.has i := by unfold Dk.has; rw [e.lasts]
theorem DkEq.off {d v : Dk} (e : DkEq d v) : d.burn.down = true ↔ v.off := by
  unfold Dk.off
  simp only [Dk.burn, Bool.or_eq_true, decide_eq_true_eq]
  rw [← e.down]
  cases h : d.down
  · rw [← e.fuse h]
  · simp
theorem DkEq.write {d v : Dk} (e : DkEq d v) (a : Int) (b : List UInt8) : (d.write a b).1 = (v.rwrite a b).1 ∧ DkEq (d.write a b).2 (v.rwrite a b).2 := by
  unfold Dk.write Dk.rwrite
  by_cases h1 : ¬ d.has a ∨ 64 < b.length
  · have h1' : ¬ v.has a ∨ 64 < b.length := by rw [← e.has]; exact h1
    rw [if_pos h1, if_pos h1']
    exact ⟨rfl, e⟩
  · have h1' : ¬ (¬ v.has a ∨ 64 < b.length) := by rw [← e.has]; exact h1
    rw [if_neg h1, if_neg h1']
    by_cases h2 : d.burn.down = true
    · rw [if_pos h2, if_pos (e.off.1 h2)]
      exact ⟨rfl, e.lasts, e.loose, by rw [h2]; rfl, fun h => by rw [h2] at h; cases h⟩
    · rw [if_neg h2, if_neg (fun h => h2 (e.off.2 h))]
      have hd : d.down = false := by
        simp only [Dk.burn, Bool.or_eq_true, decide_eq_true_eq, not_or] at h2
        simpa using h2.1
      have hf := e.fuse hd
      refine ⟨rfl, e.lasts, ?_, ?_, fun _ => ?_⟩
      · simp only [Dk.add, Dk.burn, Dk.rburn]; rw [e.loose]
      · simp only [Dk.add, Dk.rburn]; rw [← e.down, hd]; simpa using h2
      · simp only [Dk.add, Dk.burn, Dk.rburn]; rw [hf]
theorem DkEq.flush {d v : Dk} (e : DkEq d v) : d.flush.1 = v.rflush.1 ∧ DkEq d.flush.2 v.rflush.2 := by
  unfold Dk.flush Dk.rflush
  by_cases h2 : d.burn.down = true
  · rw [if_pos h2, if_pos (e.off.1 h2)]
    exact ⟨rfl, e.lasts, e.loose, by rw [h2]; rfl, fun h => by rw [h2] at h; cases h⟩
  · rw [if_neg h2, if_neg (fun h => h2 (e.off.2 h))]
    have hd : d.down = false := by
      simp only [Dk.burn, Bool.or_eq_true, decide_eq_true_eq, not_or] at h2
      simpa using h2.1
    have hf := e.fuse hd
    refine ⟨rfl, e.now, rfl, ?_, fun _ => ?_⟩
    · simp only; rw [← e.down, hd]; simpa using h2
    · simp only [Dk.burn, Dk.rburn]; rw [hf]
theorem DkEq.refl (d : Dk) : DkEq d d := ⟨rfl, rfl, rfl, fun _ => rfl⟩
theorem DkEq.scan {d v : Dk} (e : DkEq d v) (a en gen : Int) : d.scan a en gen = v.scan a en gen := by unfold Dk.scan; rw [e.now, e.lasts]
theorem DkEq.cleanLoop : ∀ (m i : Nat) (s : Bool) {d v : Dk}, DkEq d v → (cleanLoop m i s d).1 = (rcleanLoop m i s v).1 ∧ (cleanLoop m i s d).2.1 = (rcleanLoop m i s v).2.1 ∧ DkEq (cleanLoop m i s d).2.2 (rcleanLoop m i s v).2.2 := by
  intro m
  induction m with
  | zero => intro i s d v e; exact ⟨rfl, rfl, e⟩
  | succ m ih =>
    intro i s d v e
    have hn : ((d.now[i]?).getD []) = ((v.now[i]?).getD []) := by rw [e.now]
    obtain ⟨w1, w2⟩ := e.write i []
    cases hz : ((d.now[i]?).getD []).all (· == 0)
    · have hz' : ((v.now[i]?).getD []).all (· == 0) = false := by rw [← hn]; exact hz
      by_cases hw : (d.write i []).1 = 0
      · rw [cleanLoop_go hz hw, rcleanLoop_go hz' (by rw [← w1]; exact hw)]
        exact ih (i + 1) true w2
      · rw [cleanLoop_no hz hw, rcleanLoop_no hz' (by rw [← w1]; exact hw)]
        exact ⟨w1, rfl, w2⟩
    · have hz' : ((v.now[i]?).getD []).all (· == 0) = true := by rw [← hn]; exact hz
      rw [cleanLoop_blank hz, rcleanLoop_blank hz']
      exact ih (i + 1) s e
theorem DkEq.clean {d v : Dk} (e : DkEq d v) (a en : Int) : (d.clean a en).1 = (v.rclean a en).1 ∧ DkEq (d.clean a en).2 (v.rclean a en).2 := by
  have h := DkEq.cleanLoop (min en d.lasts.length - max a 0).toNat (max a 0).toNat false e
  unfold Dk.clean Dk.rclean
  rw [← e.lasts]
  generalize Go.Ax.cleanLoop (min en d.lasts.length - max a 0).toNat (max a 0).toNat false d = L at *
  generalize rcleanLoop (min en d.lasts.length - max a 0).toNat (max a 0).toNat false v = R at *
  obtain ⟨l1, l2, l3⟩ := L
  obtain ⟨r1, r2, r3⟩ := R
  simp only at h ⊢
  obtain ⟨rfl, rfl, h3⟩ := h
  by_cases z : l1 = 0
  · subst z
    simp only [ne_eq, not_true_eq_false, if_false]
    cases l2
    · exact ⟨rfl, h3⟩
    · simp only [if_true]; exact h3.flush
  · rw [if_pos z, if_pos z]
    exact ⟨rfl, h3⟩
end Go.Ax

namespace Go.Ax
open Go Go.Proofs
theorem Dsk.cap {S : Obs} {h : Heap} {p r : Nat} {d : Dk} (D : Dsk S h p r d) : Dsk (fun i => S i ∧ i < h.length) h p r d := by
  obtain ⟨x, hx, ha⟩ := D.var
  refine ⟨⟨D.hp, (List.getElem?_eq_some_iff.1 hx).1⟩, fun e => ⟨D.hr e, (List.getElem?_eq_some_iff.1 (D.row e)).1⟩, ⟨x, hx, ?_⟩, D.row, D.cells, D.loose, D.few⟩
  rcases ha with a | ⟨kk, hx, a | ⟨r, g, hk, hr, hg⟩⟩
  · exact .inl a
  · exact .inr ⟨kk, hx, .inl a⟩
  · exact .inr ⟨kk, hx, .inr ⟨r, g, hk, ⟨hr, (List.getElem?_eq_some_iff.1 hg).1⟩, hg⟩⟩
theorem Rsk.cap {S : Obs} {h : Heap} {p r : Nat} {d : Dk} (D : Rsk S h p r d) : Rsk (fun i => S i ∧ i < h.length) h p r d := by
  obtain ⟨x, vs, hx, ha, hv⟩ := D.var
  refine ⟨⟨D.hp, (List.getElem?_eq_some_iff.1 hx).1⟩, fun e => ⟨D.hr e, by obtain ⟨us, hu, -⟩ := D.row e; exact (List.getElem?_eq_some_iff.1 hu).1⟩, ⟨x, vs, hx, ?_, hv⟩, D.row, D.cells, D.loose, D.few⟩
  rcases ha with a | ⟨kk, hx, a | ⟨r, g, hk, hr, hg⟩⟩
  · exact .inl a
  · exact .inr ⟨kk, hx, .inl a⟩
  · exact .inr ⟨kk, hx, .inr ⟨r, g, hk, ⟨hr, (List.getElem?_eq_some_iff.1 hg).1⟩, hg⟩⟩
def Two (b : Nat) (F : Obs) (h : Heap) (p r p' r' : Nat) (d v : Dk) : Prop :=
  b ≤ h.length ∧ (∀ i, F i → i < h.length) ∧ ∃ S1 S2 : Obs, Dsk S1 h p r d ∧ Rsk S2 h p' r' v ∧ (∀ i, S1 i → ¬ S2 i) ∧ (∀ i, S1 i → b ≤ i ∧ i < h.length ∧ ¬ F i) ∧ (∀ i, S2 i → b ≤ i ∧ i < h.length ∧ ¬ F i)
def Zone (b : Nat) (F : Obs) (_ : Heap) : Obs := fun i => b ≤ i ∧ ¬ F i
theorem Two.alloc {b : Nat} {F : Obs} {h h' : Heap} {p r p' r' : Nat} {d v : Dk} (T : Two b F h p r p' r' d v) (k : Keep (From h.length) h h') : Two b (fun i => F i ∨ (h.length ≤ i ∧ i < h'.length)) h' p r p' r' d v := by
  obtain ⟨hb, hF, S1, S2, D, R, dis, b1, b2⟩ := T
  have hk := k.1
  refine ⟨by omega, fun i hi => ?_, S1, S2, D.fresh k, R.fresh k, dis, fun i hi => ?_, fun i hi => ?_⟩
  · rcases hi with hi | hi
    · have := hF i hi; omega
    · exact hi.2
  · have := b1 i hi; exact ⟨this.1, by omega, fun hf => by rcases hf with hf | hf; exact this.2.2 hf; omega⟩
  · have := b2 i hi; exact ⟨this.1, by omega, fun hf => by rcases hf with hf | hf; exact this.2.2 hf; omega⟩
theorem Two.other {b : Nat} {F U : Obs} {h h' : Heap} {p r p' r' : Nat} {d v : Dk} (T : Two b F h p r p' r' d v) (k : Keep U h h') (hU : ∀ i, U i → F i) : Two b F h' p r p' r' d v := by
  obtain ⟨hb, hF, S1, S2, D, R, dis, b1, b2⟩ := T
  have hk := k.1
  exact ⟨by omega, fun i hi => by have := hF i hi; omega, S1, S2, D.keep k fun i _ h1 h2 => (b1 i h1).2.2 (hU i h2), R.keep k fun i _ h1 h2 => (b2 i h1).2.2 (hU i h2), dis,
    fun i hi => ⟨(b1 i hi).1, by have := (b1 i hi).2.1; omega, (b1 i hi).2.2⟩, fun i hi => ⟨(b2 i hi).1, by have := (b2 i hi).2.1; omega, (b2 i hi).2.2⟩⟩
theorem Two.forget {b : Nat} {F G : Obs} {h : Heap} {p r p' r' : Nat} {d v : Dk} (T : Two b F h p r p' r' d v) (hG : ∀ i, G i → F i) : Two b G h p r p' r' d v := by
  obtain ⟨hb, hF, S1, S2, D, R, dis, b1, b2⟩ := T
  exact ⟨hb, fun i hi => hF i (hG i hi), S1, S2, D, R, dis, fun i hi => ⟨(b1 i hi).1, (b1 i hi).2.1, fun h => (b1 i hi).2.2 (hG i h)⟩, fun i hi => ⟨(b2 i hi).1, (b2 i hi).2.1, fun h => (b2 i hi).2.2 (hG i h)⟩⟩
theorem Two.dsk {b : Nat} {F : Obs} {h : Heap} {p r p' r' : Nat} {d v : Dk} (T : Two b F h p r p' r' d v) : ∃ S, Dsk S h p r d := by
  obtain ⟨-, -, S1, S2, D, -⟩ := T; exact ⟨S1, D⟩
theorem Zone.sub {b : Nat} {F : Obs} {h : Heap} : ∀ i, Zone b F h i → From b i := fun _ hi => hi.1
end Go.Ax

namespace Go.Ax
open Go Go.Proofs
structure Ac where
  what : Int
  at' : Int
  n : Int
  b : List UInt8
  keep : Nat
inductive AcsL : List AV → List Ac → Prop
  | nil : AcsL [] []
  | cons {x a vs cs} : Bs x a.b → a.keep < 2 ^ 64 → a.n < 2 ^ 63 → AcsL vs cs → AcsL (.agg 95 [.int .i64 a.what, .int .i64 a.at', .int .i64 a.n, x, .int .u64 a.keep] :: vs) (a :: cs)
theorem AcsL.length : ∀ {l : List AV} {m : List Ac}, AcsL l m → l.length = m.length
  | _, _, .nil => rfl
  | _, _, .cons _ _ _ t => by simp [AcsL.length t]
theorem AcsL.get : ∀ {vs : List AV} {cs : List Ac}, AcsL vs cs → ∀ {i : Nat} {a : Ac}, cs[i]? = some a → ∃ x, vs[i]? = some (.agg 95 [.int .i64 a.what, .int .i64 a.at', .int .i64 a.n, x, .int .u64 a.keep]) ∧ Bs x a.b ∧ a.keep < 2 ^ 64 ∧ a.n < 2 ^ 63
  | _, _, .nil, i, l, h => by simp at h
  | _, _, .cons a b c t, 0, l, h => by simp at h; subst h; exact ⟨_, rfl, a, b, c⟩
  | _, _, .cons a b c t, i + 1, l, h => by simpa using t.get (i := i) (by simpa using h)
theorem app22t {x y : AV} {l : List AV} {h : Heap} (e : srcElems tab 5 h y = some l) : aApp tab 22 22 true x y h = aAppend tab 5 true x l h := by
  simp [aApp, e]
section
variable {h : Heap} {q : Nat} {a b c d e : AV} (hq : h[q]? = some (.var 96 (.agg 95 [a, b, c, d, e])))
include hq
end
end Go.Ax

namespace Go.Ax
open Go Go.Proofs
theorem entryOf_head (gen : Int) (b : List UInt8) : (entryOf gen b)[0]? = some (pad (head16 (BitVec.ofInt 32 gen) b)) := rfl
theorem entryOf_get (gen : Int) (b : List UInt8) (j : Nat) (h1 : 1 ≤ j) (h2 : j < nOf b) : (entryOf gen b)[j]? = some (pad (chunk b j)) := by
  obtain ⟨j, rfl⟩ : ∃ i, j = i + 1 := ⟨j - 1, by omega⟩
  unfold entryOf
  rw [List.getElem?_cons_succ, List.getElem?_map, List.getElem?_range' (by omega)]
  simp [Nat.add_comm]
end Go.Ax

namespace Go.Ax
open Go Go.Proofs
theorem rowlit_hi (h : Heap) : aRowLit tab 22 2 [(0, .int .u8 104), (1, .int .u8 105)] h = some (.msl h.length [] 5 0 2, h ++ [.row 5 [U8 104, U8 105]]) := by kernel_rfl
theorem conv_hi (h : Heap) : aConv tab 22 22 (.msl h.length [] 5 0 2) (h ++ [.row 5 [U8 104, U8 105]]) = some (.msl h.length [] 5 0 2) := by
  simp [aConv]
theorem frz_hi (h : Heap) : freezeA (.msl h.length [] 5 0 2) (h ++ [.row 5 [U8 104, U8 105]]) = some (.vsl 5 [U8 104, U8 105] .none, h ++ [.dead]) := by
  simp [freezeA]
def hi : List UInt8 := [104, 105]
theorem hi_bs : Bs (.vsl 5 [U8 104, U8 105] .none) hi := .inr ⟨_, rfl⟩
theorem str_hi : (⟨hi.toArray⟩ : ByteArray).toList = hi := by rw [ByteArray.toList_eq]
theorem lift_hi : liftC (Go.Value.string {data := #[104, 105]}) = .str ⟨hi.toArray⟩ := rfl
end Go.Ax

set_option linter.unusedVariables false
namespace Go.Ax
open Go Go.Proofs
theorem e6 : E0 6 = some ⟨81, [10], bodyOf Try.f6⟩ := by kernel_rfl
end Go.Ax

namespace Go.Ax
open Go Go.Proofs
theorem Two.fresh {b : Nat} {F : Obs} {h h' : Heap} {p r p' r' : Nat} {d v : Dk} (T : Two b F h p r p' r' d v) (k : Keep (From h.length) h h') : Two b F h' p r p' r' d v := (T.alloc k).forget fun _ h => .inl h
theorem conv8_64' (n : Nat) (hn : n < 256) (h : Heap) : aConv tab 5 3 (.int .u8 n) h = some (.int .i64 n) := by
  simp [aConv]
  exact wrap_i64 (by omega) (by omega)
theorem ext30 (x y z : AV) : aExtract (.tuple [x, y, z]) 0 = some x := rfl
theorem ext31 (x y z : AV) : aExtract (.tuple [x, y, z]) 1 = some y := rfl
end Go.Ax

namespace Go.Ax
open Go Go.Proofs Go.RowKit
section
variable {T : Tab} {t : Ty} {x : AV}
theorem Wf.int_inv {k : IntKind} (h : Wf T t x) (hd : T.d t = .int k) : ∃ n, x = .int k n ∧ (Lit.int k n).wf = true := by
  cases h with
  | int h1 h2 => rw [hd] at h1; cases h1; exact ⟨_, rfl, h2⟩
  | bool h1 => rw [hd] at h1; cases h1
  | str h1 => rw [hd] at h1; cases h1
  | nils h1 => rw [hd] at h1; cases h1
  | vsl h1 => rw [hd] at h1; cases h1
  | struct h1 => rw [hd] at h1; cases h1
  | arr h1 => rw [hd] at h1; cases h1
theorem Wf.str_inv (h : Wf T t x) (hd : T.d t = .str) : ∃ s : ByteArray, x = .str s ∧ s.size ≤ maxLen := by
  cases h with
  | int h1 => rw [hd] at h1; cases h1
  | bool h1 => rw [hd] at h1; cases h1
  | str h1 h2 => exact ⟨_, rfl, h2⟩
  | nils h1 => rw [hd] at h1; cases h1
  | vsl h1 => rw [hd] at h1; cases h1
  | struct h1 => rw [hd] at h1; cases h1
  | arr h1 => rw [hd] at h1; cases h1
theorem Wf.bool_inv (h : Wf T t x) (hd : T.d t = .bool) : ∃ b, x = .bool b := by
  cases h with
  | int h1 => rw [hd] at h1; cases h1
  | bool h1 => exact ⟨_, rfl⟩
  | str h1 => rw [hd] at h1; cases h1
  | nils h1 => rw [hd] at h1; cases h1
  | vsl h1 => rw [hd] at h1; cases h1
  | struct h1 => rw [hd] at h1; cases h1
  | arr h1 => rw [hd] at h1; cases h1
theorem Wf.slice_inv {e : Ty} (h : Wf T t x) (hd : T.d t = .slice e) : x = .nils ∨ ∃ l, x = .vsl (T.und e) l .none ∧ l.length ≤ maxLen ∧ ∀ y ∈ l, Wf T e y := by
  cases h with
  | int h1 => rw [hd] at h1; cases h1
  | bool h1 => rw [hd] at h1; cases h1
  | str h1 => rw [hd] at h1; cases h1
  | nils h1 => exact .inl rfl
  | vsl h1 h2 h3 => rw [hd] at h1; cases h1; exact .inr ⟨_, rfl, h2, h3⟩
  | struct h1 => rw [hd] at h1; cases h1
  | arr h1 => rw [hd] at h1; cases h1
end
theorem law_calls_any {g : FuncId} {x : Fn'} (hg : E0 g = some x) {k : Nat} {args : List AV} {h' : Heap} (hr : exFn C0 E0 k false g args [] = some (.bool true, h')) {w : World} {xs : List Value} (hv : VRL tab (J0 w) args xs) :
    Calls Try.prog g xs.toArray w fun e w' => e = .returned (.bool true) ∧ Below w.heap.size w w' := law_calls hg hr hv
theorem wf_i64 {n : Int} (h : (Lit.int .i64 n).wf = true) : -9223372036854775808 ≤ n ∧ n < 9223372036854775808 := by
  simp only [Lit.wf, Bool.and_eq_true, decide_eq_true_eq] at h
  have h1 : IntKind.i64.min = -9223372036854775808 := by decide
  have h2 : IntKind.i64.max = 9223372036854775807 := by decide
  omega
theorem Wf.u8 {x : AV} (h : Wf tab 5 x) : ∃ n : Nat, n < 256 ∧ x = .int .u8 n := by
  obtain ⟨n, rfl, hn⟩ := h.int_inv rfl
  obtain ⟨a, b⟩ := wf_u8 hn
  exact ⟨n.toNat, by omega, by rw [Int.toNat_of_nonneg a]⟩
theorem Wf.i64 {x : AV} (h : Wf tab 3 x) : ∃ n : Int, (-9223372036854775808 ≤ n ∧ n < 9223372036854775808) ∧ x = .int .i64 n := by
  obtain ⟨n, rfl, hn⟩ := h.int_inv rfl
  exact ⟨n, wf_i64 hn, rfl⟩
theorem Wf.u64 {x : AV} (h : Wf tab 44 x) : ∃ n : Nat, n < 2 ^ 64 ∧ x = .int .u64 n := by
  obtain ⟨n, rfl, hn⟩ := h.int_inv rfl
  obtain ⟨a, b⟩ := wf_u64 hn
  exact ⟨n.toNat, by omega, by rw [Int.toNat_of_nonneg a]⟩
theorem bytes_of : ∀ (l : List AV), (∀ y ∈ l, Wf tab 5 y) → ∃ b : List UInt8, l = b.map U8
  | [], _ => ⟨[], rfl⟩
  | y :: l, h => by
    obtain ⟨b, rfl⟩ := bytes_of l fun z hz => h z (List.mem_cons_of_mem _ hz)
    obtain ⟨n, hn, rfl⟩ := (h y List.mem_cons_self).u8
    refine ⟨UInt8.ofNat n :: b, ?_⟩
    simp only [List.map_cons, U8, List.cons.injEq, and_true]
    congr 2
    rw [UInt8.toNat_ofNat']
    omega
theorem Wf.bytes {x : AV} (h : Wf tab 22 x) : ∃ b : List UInt8, Bs x b ∧ b.length ≤ maxLen := by
  rcases h.slice_inv rfl with rfl | ⟨l, rfl, hl, hy⟩
  · exact ⟨[], .inl ⟨rfl, rfl⟩, by simp⟩
  · obtain ⟨b, rfl⟩ := bytes_of l hy
    exact ⟨b, .inr ⟨_, rfl⟩, by simpa using hl⟩
theorem bsL_of : ∀ (l : List AV), (∀ y ∈ l, Wf tab 22 y) → ∃ ls, BsL l ls ∧ ∀ b ∈ ls, b.length ≤ maxLen
  | [], _ => ⟨[], .nil, by simp⟩
  | y :: l, h => by
    obtain ⟨ls, h1, h2⟩ := bsL_of l fun z hz => h z (List.mem_cons_of_mem _ hz)
    obtain ⟨b, hb, hl⟩ := (h y List.mem_cons_self).bytes
    exact ⟨b :: ls, .cons hb h1, fun c hc => by rcases List.mem_cons.1 hc with rfl | hc; exact hl; exact h2 c hc⟩
theorem Wf.rows {x : AV} (h : Wf tab 30 x) : ∃ ls, Rw x ls ∧ ls.length ≤ maxLen ∧ ∀ b ∈ ls, b.length ≤ maxLen := by
  rcases h.slice_inv rfl with rfl | ⟨l, rfl, hl, hy⟩
  · exact ⟨[], .inl ⟨rfl, rfl⟩, by simp, by simp⟩
  · obtain ⟨ls, h1, h2⟩ := bsL_of l hy
    exact ⟨ls, .inr ⟨_, _, rfl, h1⟩, by rw [← h1.length]; exact hl, h2⟩
end Go.Ax

set_option linter.unusedVariables false
namespace Go.Ax
open Go Go.Proofs
noncomputable def O59 (i : Nat) : Array Oper := opsOf i (bodyOf Try.f59)
noncomputable def B59_1 : Code := (.seq (.region 3 (O59 3) false) (.seq (.cond (Go.Operand.tmp 10) .skip (.exit 0)) (.seq (.block 1 (.seq (.region 4 (O59 4) false) (.seq (.region 5 (O59 5) false) (.seq (.region 6 (O59 6) false) (.seq (.seq (.region 7 (O59 7) false) (.cond (Go.Operand.tmp 32) (.exit 1) .skip)) (.seq (.region 8 (O59 8) false) (.seq (.region 9 (O59 9) true) (.cond (Go.Operand.tmp 49) (.region 10 (O59 10) false) .skip)))))))) (.region 11 (O59 11) false))))
theorem s59 : bodyOf Try.f59 = (.seq (.region 0 (O59 0) false) (.seq (.region 1 (O59 1) false) (.seq (.seq (.region 2 (O59 2) false) (.block 0 (.loop B59_1))) (.seq (.region 12 (O59 12) false) .ret)))) := by kernel_rfl
theorem e59 : E0 59 = some ⟨55, [2], bodyOf Try.f59⟩ := by kernel_rfl
theorem r59_0 {β : Type} (call : CallF) (md : Bool) (n : Nat) (k : Ex → List AV → Heap → Option β) (x0 : AV) (h : Heap) :
    runK C0 call md 59 n (.region 0 (O59 0) false) k (st 55 [(0, x0)]) h =
    k .normal (st 55 [(0, x0)]) h
  := by kernel_rfl
theorem r59_1 {β : Type} (call : CallF) (md : Bool) (n : Nat) (k : Ex → List AV → Heap → Option β) (x0 : AV) (h : Heap) :
    runK C0 call md 59 n (.region 1 (O59 1) false) k (st 55 [(0, x0)]) h =
    k .normal (st 55 [(0, x0), (3, (.int .i64 0))]) h
  := by kernel_rfl
theorem r59_2 {β : Type} (call : CallF) (md : Bool) (n : Nat) (k : Ex → List AV → Heap → Option β) (x0 x3 : AV) (h : Heap) :
    runK C0 call md 59 n (.region 2 (O59 2) false) k (st 55 [(0, x0), (3, x3)]) h =
    k .normal (st 55 [(0, x0), (3, x3), (9, (.int .i64 0))]) h
  := by kernel_rfl
theorem r59_3 {β : Type} (call : CallF) (md : Bool) (n : Nat) (k : Ex → List AV → Heap → Option β) (x0 x3 x9 : AV) (h : Heap) :
    runK C0 call md 59 n (.region 3 (O59 3) false) k (st 55 [(0, x0), (3, x3), (9, x9)]) h =
    bnd (aBinC tab .lss 3 x9 (.int .i64 2) true) fun v1 =>
    k .normal (st 55 [(0, x0), (3, x3), (9, x9), (10, v1)]) h
  := by kernel_rfl
theorem r59_4 {β : Type} (call : CallF) (md : Bool) (n : Nat) (k : Ex → List AV → Heap → Option β) (x0 x3 x9 x10 : AV) (h : Heap) :
    runK C0 call md 59 n (.region 4 (O59 4) false) k (st 55 [(0, x0), (3, x3), (9, x9), (10, x10)]) h =
    k .normal (st 55 [(0, x0), (3, x3), (4, x9), (9, x9)]) h
  := by kernel_rfl
theorem r59_5 {β : Type} (call : CallF) (md : Bool) (n : Nat) (k : Ex → List AV → Heap → Option β) (x0 x3 x4 x9 : AV) (h : Heap) :
    runK C0 call md 59 n (.region 5 (O59 5) false) k (st 55 [(0, x0), (3, x3), (4, x4), (9, x9)]) h =
    bnd2 (aCall call md (.fn (.func 38) []) [x0, x4] h) fun v1 h2 =>
    bnd (aExtract v1 0) fun v3 =>
    bnd (aExtract v1 1) fun v4 =>
    k .normal (st 55 [(0, x0), (3, x3), (4, x4), (5, v3), (9, x9)]) h2
  := by kernel_rfl
theorem r59_6 {β : Type} (call : CallF) (md : Bool) (n : Nat) (k : Ex → List AV → Heap → Option β) (x0 x3 x4 x5 x9 : AV) (h : Heap) :
    runK C0 call md 59 n (.region 6 (O59 6) false) k (st 55 [(0, x0), (3, x3), (4, x4), (5, x5), (9, x9)]) h =
    bnd2 (aCall call md (.fn (.func 72) []) [x5] h) fun v1 h2 =>
    bnd (aConv tab 105 3 v1 h2) fun v3 =>
    k .normal (st 55 [(0, x0), (3, x3), (4, x4), (5, x5), (7, v3), (9, x9)]) h2
  := by kernel_rfl
def J59_7_4 {β : Type} (call : CallF) (md : Bool) (k : Ex → List AV → Heap → Option β) (x0 x3 x5 x7 x9 x27 x31 : AV) (h : Heap) : Option β :=
    bnd (aPick x27 (.bool true) x31) fun v1 =>
    k .normal (st 55 [(0, x0), (3, x3), (5, x5), (7, x7), (9, x9), (32, v1)]) h
theorem j59_7_4 {β : Type} (call : CallF) (md : Bool) (k : Ex → List AV → Heap → Option β) (x0 x3 x4 x5 x7 x9 x21 x22 x23 x24 x25 x26 x27 x28 x29 x30 x31 : AV) (h : Heap) :
    opsK C0 call md 59 (O59 7) ((O59 7).toList.drop 11) (st 55 [(0, x0), (3, x3), (4, x4), (5, x5), (7, x7), (9, x9), (21, x21), (22, x22), (23, x23), (24, x24), (25, x25), (26, x26), (27, x27), (28, x28), (29, x29), (30, x30), (31, x31)]) h (fun tm h => k .normal (clr (C0.keep 59 7) tm) h) = J59_7_4 call md k x0 x3 x5 x7 x9 x27 x31 h := by kernel_rfl
def J59_7_3 {β : Type} (call : CallF) (md : Bool) (k : Ex → List AV → Heap → Option β) (x0 x3 x4 x5 x7 x9 x27 : AV) (h : Heap) : Option β :=
    onG false x27 (
      bnd (aBinC tab .rem 3 x7 (.int .i64 2) true) fun v3 =>
      bnd (aBinC tab .neq 3 v3 x4 false) fun v4 =>
      J59_7_4 call md k x0 x3 x5 x7 x9 x27 v4 h) (
      J59_7_4 call md k x0 x3 x5 x7 x9 x27 .skip h)
theorem g59_7_3 {β : Type} (call : CallF) (md : Bool) (kk : List AV → Heap → Option β) (x0 x3 x4 x5 x7 x9 x21 x22 x23 x24 x25 x26 x27 : AV) (h : Heap) :
    opsK C0 call md 59 (O59 7) (((O59 7).toList.drop 7).take 4) (st 55 [(0, x0), (3, x3), (4, x4), (5, x5), (7, x7), (9, x9), (21, x21), (22, x22), (23, x23), (24, x24), (25, x25), (26, x26), (27, x27)]) h kk =
    onG false x27 (
      bnd (aBinC tab .rem 3 x7 (.int .i64 2) true) fun v5 =>
      bnd (aBinC tab .neq 3 v5 x4 false) fun v6 =>
      kk (st 55 [(0, x0), (3, x3), (4, x4), (5, x5), (7, x7), (9, x9), (21, x21), (22, x22), (23, x23), (24, x24), (25, x25), (26, x26), (27, x27), (28, x7), (29, v5), (30, x4), (31, v6)]) h) (
      kk (st 55 [(0, x0), (3, x3), (4, x4), (5, x5), (7, x7), (9, x9), (21, x21), (22, x22), (23, x23), (24, x24), (25, x25), (26, x26), (27, x27), (28, .skip), (29, .skip), (30, .skip), (31, .skip)]) h)
  := by cases x27 with | bool b => (cases b <;> kernel_rfl) | _ => kernel_rfl
theorem j59_7_3 {β : Type} (call : CallF) (md : Bool) (k : Ex → List AV → Heap → Option β) (x0 x3 x4 x5 x7 x9 x21 x22 x23 x24 x25 x26 x27 : AV) (h : Heap) :
    opsK C0 call md 59 (O59 7) ((O59 7).toList.drop 7) (st 55 [(0, x0), (3, x3), (4, x4), (5, x5), (7, x7), (9, x9), (21, x21), (22, x22), (23, x23), (24, x24), (25, x25), (26, x26), (27, x27)]) h (fun tm h => k .normal (clr (C0.keep 59 7) tm) h) = J59_7_3 call md k x0 x3 x4 x5 x7 x9 x27 h := by
  have e : ((O59 7).toList.drop 7) = ((O59 7).toList.drop 7).take 4 ++ (O59 7).toList.drop 11 := by kernel_rfl
  rw [show opsK C0 call md 59 (O59 7) ((O59 7).toList.drop 7) = opsK C0 call md 59 (O59 7) (((O59 7).toList.drop 7).take 4 ++ (O59 7).toList.drop 11) from congrArg _ e]
  rw [opsK_append, g59_7_3]
  simp only [j59_7_4]
  rfl
def J59_7_2 {β : Type} (call : CallF) (md : Bool) (k : Ex → List AV → Heap → Option β) (x0 x3 x4 x5 x7 x9 x23 x25 : AV) (h : Heap) : Option β :=
    bnd (aPick x23 (.bool true) x25) fun v7 =>
    J59_7_3 call md k x0 x3 x4 x5 x7 x9 v7 h
theorem g59_7_2 {β : Type} (call : CallF) (md : Bool) (kk : List AV → Heap → Option β) (x0 x3 x4 x5 x7 x9 x21 x22 x23 x24 x25 : AV) (h : Heap) :
    opsK C0 call md 59 (O59 7) (((O59 7).toList.drop 5).take 2) (st 55 [(0, x0), (3, x3), (4, x4), (5, x5), (7, x7), (9, x9), (21, x21), (22, x22), (23, x23), (24, x24), (25, x25)]) h kk =
    bnd (aPick x23 (.bool true) x25) fun v8 =>
    kk (st 55 [(0, x0), (3, x3), (4, x4), (5, x5), (7, x7), (9, x9), (21, x21), (22, x22), (23, x23), (24, x24), (25, x25), (26, v8), (27, v8)]) h
  := by kernel_rfl
theorem j59_7_2 {β : Type} (call : CallF) (md : Bool) (k : Ex → List AV → Heap → Option β) (x0 x3 x4 x5 x7 x9 x21 x22 x23 x24 x25 : AV) (h : Heap) :
    opsK C0 call md 59 (O59 7) ((O59 7).toList.drop 5) (st 55 [(0, x0), (3, x3), (4, x4), (5, x5), (7, x7), (9, x9), (21, x21), (22, x22), (23, x23), (24, x24), (25, x25)]) h (fun tm h => k .normal (clr (C0.keep 59 7) tm) h) = J59_7_2 call md k x0 x3 x4 x5 x7 x9 x23 x25 h := by
  have e : ((O59 7).toList.drop 5) = ((O59 7).toList.drop 5).take 2 ++ (O59 7).toList.drop 7 := by kernel_rfl
  rw [show opsK C0 call md 59 (O59 7) ((O59 7).toList.drop 5) = opsK C0 call md 59 (O59 7) (((O59 7).toList.drop 5).take 2 ++ (O59 7).toList.drop 7) from congrArg _ e]
  rw [opsK_append, g59_7_2]
  simp only [j59_7_3]
  rfl
def J59_7_1 {β : Type} (call : CallF) (md : Bool) (k : Ex → List AV → Heap → Option β) (x0 x3 x4 x5 x7 x9 x23 : AV) (h : Heap) : Option β :=
    onG false x23 (
      bnd (aBinC tab .gtr 3 x7 (.int .i64 2147483647) true) fun v9 =>
      J59_7_2 call md k x0 x3 x4 x5 x7 x9 x23 v9 h) (
      J59_7_2 call md k x0 x3 x4 x5 x7 x9 x23 .skip h)
theorem g59_7_1 {β : Type} (call : CallF) (md : Bool) (kk : List AV → Heap → Option β) (x0 x3 x4 x5 x7 x9 x21 x22 x23 : AV) (h : Heap) :
    opsK C0 call md 59 (O59 7) (((O59 7).toList.drop 3).take 2) (st 55 [(0, x0), (3, x3), (4, x4), (5, x5), (7, x7), (9, x9), (21, x21), (22, x22), (23, x23)]) h kk =
    onG false x23 (
      bnd (aBinC tab .gtr 3 x7 (.int .i64 2147483647) true) fun v10 =>
      kk (st 55 [(0, x0), (3, x3), (4, x4), (5, x5), (7, x7), (9, x9), (21, x21), (22, x22), (23, x23), (24, x7), (25, v10)]) h) (
      kk (st 55 [(0, x0), (3, x3), (4, x4), (5, x5), (7, x7), (9, x9), (21, x21), (22, x22), (23, x23), (24, .skip), (25, .skip)]) h)
  := by cases x23 with | bool b => (cases b <;> kernel_rfl) | _ => kernel_rfl
theorem j59_7_1 {β : Type} (call : CallF) (md : Bool) (k : Ex → List AV → Heap → Option β) (x0 x3 x4 x5 x7 x9 x21 x22 x23 : AV) (h : Heap) :
    opsK C0 call md 59 (O59 7) ((O59 7).toList.drop 3) (st 55 [(0, x0), (3, x3), (4, x4), (5, x5), (7, x7), (9, x9), (21, x21), (22, x22), (23, x23)]) h (fun tm h => k .normal (clr (C0.keep 59 7) tm) h) = J59_7_1 call md k x0 x3 x4 x5 x7 x9 x23 h := by
  have e : ((O59 7).toList.drop 3) = ((O59 7).toList.drop 3).take 2 ++ (O59 7).toList.drop 5 := by kernel_rfl
  rw [show opsK C0 call md 59 (O59 7) ((O59 7).toList.drop 3) = opsK C0 call md 59 (O59 7) (((O59 7).toList.drop 3).take 2 ++ (O59 7).toList.drop 5) from congrArg _ e]
  rw [opsK_append, g59_7_1]
  simp only [j59_7_2]
  rfl
def J59_7_0 {β : Type} (call : CallF) (md : Bool) (k : Ex → List AV → Heap → Option β) (x0 x3 x4 x5 x7 x9 : AV) (h : Heap) : Option β :=
    bnd (aBinC tab .lss 3 x7 (.int .i64 1) true) fun v11 =>
    J59_7_1 call md k x0 x3 x4 x5 x7 x9 v11 h
theorem g59_7_0 {β : Type} (call : CallF) (md : Bool) (kk : List AV → Heap → Option β) (x0 x3 x4 x5 x7 x9 : AV) (h : Heap) :
    opsK C0 call md 59 (O59 7) ((O59 7).toList.take 3) (st 55 [(0, x0), (3, x3), (4, x4), (5, x5), (7, x7), (9, x9)]) h kk =
    bnd (aBinC tab .lss 3 x7 (.int .i64 1) true) fun v12 =>
    kk (st 55 [(0, x0), (3, x3), (4, x4), (5, x5), (7, x7), (9, x9), (21, x7), (22, v12), (23, v12)]) h
  := by kernel_rfl
theorem j59_7_0 {β : Type} (call : CallF) (md : Bool) (k : Ex → List AV → Heap → Option β) (x0 x3 x4 x5 x7 x9 : AV) (h : Heap) :
    opsK C0 call md 59 (O59 7) (O59 7).toList (st 55 [(0, x0), (3, x3), (4, x4), (5, x5), (7, x7), (9, x9)]) h (fun tm h => k .normal (clr (C0.keep 59 7) tm) h) = J59_7_0 call md k x0 x3 x4 x5 x7 x9 h := by
  have e : (O59 7).toList = (O59 7).toList.take 3 ++ (O59 7).toList.drop 3 := by kernel_rfl
  rw [show opsK C0 call md 59 (O59 7) (O59 7).toList = opsK C0 call md 59 (O59 7) ((O59 7).toList.take 3 ++ (O59 7).toList.drop 3) from congrArg _ e]
  rw [opsK_append, g59_7_0]
  simp only [j59_7_1]
  rfl
theorem r59_7 {β : Type} (call : CallF) (md : Bool) (n : Nat) (k : Ex → List AV → Heap → Option β) (x0 x3 x4 x5 x7 x9 : AV) (h : Heap) :
    runK C0 call md 59 n (.region 7 (O59 7) false) k (st 55 [(0, x0), (3, x3), (4, x4), (5, x5), (7, x7), (9, x9)]) h = J59_7_0 call md k x0 x3 x4 x5 x7 x9 h := (runK_region C0 call md 59 n 7 (O59 7) k (st 55 [(0, x0), (3, x3), (4, x4), (5, x5), (7, x7), (9, x9)]) h).trans (j59_7_0 call md k x0 x3 x4 x5 x7 x9 h)
theorem r59_8 {β : Type} (call : CallF) (md : Bool) (n : Nat) (k : Ex → List AV → Heap → Option β) (x0 x3 x5 x7 x9 x32 : AV) (h : Heap) :
    runK C0 call md 59 n (.region 8 (O59 8) false) k (st 55 [(0, x0), (3, x3), (5, x5), (7, x7), (9, x9), (32, x32)]) h =
    bnd2 (aCall call md (.fn (.func 75) []) [x7] h) fun v1 h2 =>
    k .normal (st 55 [(0, x0), (3, x3), (5, x5), (7, x7), (8, v1), (9, x9)]) h2
  := by kernel_rfl
def J59_9_2 {β : Type} (call : CallF) (md : Bool) (k : Ex → List AV → Heap → Option β) (x0 x3 x7 x9 x43 x48 : AV) (h : Heap) : Option β :=
    bnd (aPick x43 x48 (.bool false)) fun v1 =>
    k .normal (st 55 [(0, x0), (3, x3), (7, x7), (9, x9), (49, v1)]) h
theorem j59_9_2 {β : Type} (call : CallF) (md : Bool) (k : Ex → List AV → Heap → Option β) (x0 x3 x5 x7 x8 x9 x35 x36 x37 x38 x39 x40 x41 x42 x43 x44 x45 x46 x47 x48 : AV) (h : Heap) :
    opsK C0 call md 59 (O59 9) ((O59 9).toList.drop 14) (st 55 [(0, x0), (3, x3), (5, x5), (7, x7), (8, x8), (9, x9), (35, x35), (36, x36), (37, x37), (38, x38), (39, x39), (40, x40), (41, x41), (42, x42), (43, x43), (44, x44), (45, x45), (46, x46), (47, x47), (48, x48)]) h (fun tm h => k .normal (clr (C0.keep 59 9) tm) h) = J59_9_2 call md k x0 x3 x7 x9 x43 x48 h := by kernel_rfl
def J59_9_1 {β : Type} (call : CallF) (md : Bool) (k : Ex → List AV → Heap → Option β) (x0 x3 x5 x7 x8 x9 x43 : AV) (h : Heap) : Option β :=
    onG true x43 (
      bnd (aLen tab 22 x8) fun v3 =>
      bnd (aSlice tab 22 x5 (some v3) none none) fun v4 =>
      bnd2 (aCall call md (.fn (.func 76) []) [v4] h) fun v5 h6 =>
      J59_9_2 call md k x0 x3 x7 x9 x43 v5 h6) (
      J59_9_2 call md k x0 x3 x7 x9 x43 .skip h)
theorem g59_9_1 {β : Type} (call : CallF) (md : Bool) (kk : List AV → Heap → Option β) (x0 x3 x5 x7 x8 x9 x35 x36 x37 x38 x39 x40 x41 x42 x43 : AV) (h : Heap) :
    opsK C0 call md 59 (O59 9) (((O59 9).toList.drop 9).take 5) (st 55 [(0, x0), (3, x3), (5, x5), (7, x7), (8, x8), (9, x9), (35, x35), (36, x36), (37, x37), (38, x38), (39, x39), (40, x40), (41, x41), (42, x42), (43, x43)]) h kk =
    onG true x43 (
      bnd (aLen tab 22 x8) fun v7 =>
      bnd (aSlice tab 22 x5 (some v7) none none) fun v8 =>
      bnd2 (aCall call md (.fn (.func 76) []) [v8] h) fun v9 h10 =>
      kk (st 55 [(0, x0), (3, x3), (5, x5), (7, x7), (8, x8), (9, x9), (35, x35), (36, x36), (37, x37), (38, x38), (39, x39), (40, x40), (41, x41), (42, x42), (43, x43), (44, x5), (45, x8), (46, v7), (47, v8), (48, v9)]) h10) (
      kk (st 55 [(0, x0), (3, x3), (5, x5), (7, x7), (8, x8), (9, x9), (35, x35), (36, x36), (37, x37), (38, x38), (39, x39), (40, x40), (41, x41), (42, x42), (43, x43), (44, .skip), (45, .skip), (46, .skip), (47, .skip), (48, .skip)]) h)
  := by cases x43 with | bool b => (cases b <;> kernel_rfl) | _ => kernel_rfl
theorem j59_9_1 {β : Type} (call : CallF) (md : Bool) (k : Ex → List AV → Heap → Option β) (x0 x3 x5 x7 x8 x9 x35 x36 x37 x38 x39 x40 x41 x42 x43 : AV) (h : Heap) :
    opsK C0 call md 59 (O59 9) ((O59 9).toList.drop 9) (st 55 [(0, x0), (3, x3), (5, x5), (7, x7), (8, x8), (9, x9), (35, x35), (36, x36), (37, x37), (38, x38), (39, x39), (40, x40), (41, x41), (42, x42), (43, x43)]) h (fun tm h => k .normal (clr (C0.keep 59 9) tm) h) = J59_9_1 call md k x0 x3 x5 x7 x8 x9 x43 h := by
  have e : ((O59 9).toList.drop 9) = ((O59 9).toList.drop 9).take 5 ++ (O59 9).toList.drop 14 := by kernel_rfl
  rw [show opsK C0 call md 59 (O59 9) ((O59 9).toList.drop 9) = opsK C0 call md 59 (O59 9) (((O59 9).toList.drop 9).take 5 ++ (O59 9).toList.drop 14) from congrArg _ e]
  rw [opsK_append, g59_9_1]
  simp only [j59_9_2]
  rfl
def J59_9_0 {β : Type} (call : CallF) (md : Bool) (k : Ex → List AV → Heap → Option β) (x0 x3 x5 x7 x8 x9 : AV) (h : Heap) : Option β :=
    bnd (aConv tab 22 9 x8 h) fun v11 =>
    bnd (aLen tab 22 x8) fun v12 =>
    bnd (aSlice tab 22 x5 none (some v12) none) fun v13 =>
    bnd (aConv tab 22 9 v13 h) fun v14 =>
    bnd (aBinC tab .eql 9 v11 v14 false) fun v15 =>
    J59_9_1 call md k x0 x3 x5 x7 x8 x9 v15 h
theorem g59_9_0 {β : Type} (call : CallF) (md : Bool) (kk : List AV → Heap → Option β) (x0 x3 x5 x7 x8 x9 : AV) (h : Heap) :
    opsK C0 call md 59 (O59 9) ((O59 9).toList.take 9) (st 55 [(0, x0), (3, x3), (5, x5), (7, x7), (8, x8), (9, x9)]) h kk =
    bnd (aConv tab 22 9 x8 h) fun v16 =>
    bnd (aLen tab 22 x8) fun v17 =>
    bnd (aSlice tab 22 x5 none (some v17) none) fun v18 =>
    bnd (aConv tab 22 9 v18 h) fun v19 =>
    bnd (aBinC tab .eql 9 v16 v19 false) fun v20 =>
    kk (st 55 [(0, x0), (3, x3), (5, x5), (7, x7), (8, x8), (9, x9), (35, x8), (36, v16), (37, x5), (38, x8), (39, v17), (40, v18), (41, v19), (42, v20), (43, v20)]) h
  := by kernel_rfl
theorem j59_9_0 {β : Type} (call : CallF) (md : Bool) (k : Ex → List AV → Heap → Option β) (x0 x3 x5 x7 x8 x9 : AV) (h : Heap) :
    opsK C0 call md 59 (O59 9) (O59 9).toList (st 55 [(0, x0), (3, x3), (5, x5), (7, x7), (8, x8), (9, x9)]) h (fun tm h => k .normal (clr (C0.keep 59 9) tm) h) = J59_9_0 call md k x0 x3 x5 x7 x8 x9 h := by
  have e : (O59 9).toList = (O59 9).toList.take 9 ++ (O59 9).toList.drop 9 := by kernel_rfl
  rw [show opsK C0 call md 59 (O59 9) (O59 9).toList = opsK C0 call md 59 (O59 9) ((O59 9).toList.take 9 ++ (O59 9).toList.drop 9) from congrArg _ e]
  rw [opsK_append, g59_9_0]
  simp only [j59_9_1]
  rfl
theorem r59_9 {β : Type} (call : CallF) (md : Bool) (n : Nat) (k : Ex → List AV → Heap → Option β) (x0 x3 x5 x7 x8 x9 : AV) (h : Heap) :
    runK C0 call md 59 n (.region 9 (O59 9) true) k (st 55 [(0, x0), (3, x3), (5, x5), (7, x7), (8, x8), (9, x9)]) h = J59_9_0 call md k x0 x3 x5 x7 x8 x9 h := (runK_draw C0 call md 59 n 9 (O59 9) k (st 55 [(0, x0), (3, x3), (5, x5), (7, x7), (8, x8), (9, x9)]) h).trans ((regK_draw C0 call md 59 (ops := (O59 9)) (by kernel_rfl) (by kernel_rfl) (st 55 [(0, x0), (3, x3), (5, x5), (7, x7), (8, x8), (9, x9)]) h (fun tm h => k .normal (clr (C0.keep 59 9) tm) h)).trans (j59_9_0 call md k x0 x3 x5 x7 x8 x9 h))
theorem r59_10 {β : Type} (call : CallF) (md : Bool) (n : Nat) (k : Ex → List AV → Heap → Option β) (x0 x3 x7 x9 x49 : AV) (h : Heap) :
    runK C0 call md 59 n (.region 10 (O59 10) false) k (st 55 [(0, x0), (3, x3), (7, x7), (9, x9), (49, x49)]) h =
    bnd (aMax [x3, x7]) fun v1 =>
    k .normal (st 55 [(0, x0), (3, v1), (9, x9)]) h
  := by kernel_rfl
theorem r59_11a {β : Type} (call : CallF) (md : Bool) (n : Nat) (k : Ex → List AV → Heap → Option β) (x0 x3 x5 x7 x9 x32 : AV) (h : Heap) :
    runK C0 call md 59 n (.region 11 (O59 11) false) k (st 55 [(0, x0), (3, x3), (5, x5), (7, x7), (9, x9), (32, x32)]) h =
    bnd (aBinC tab .add 3 x9 (.int .i64 1) true) fun v1 =>
    k .normal (st 55 [(0, x0), (3, x3), (9, v1)]) h
  := by kernel_rfl
theorem r59_11b {β : Type} (call : CallF) (md : Bool) (n : Nat) (k : Ex → List AV → Heap → Option β) (x0 x3 x7 x9 x49 : AV) (h : Heap) :
    runK C0 call md 59 n (.region 11 (O59 11) false) k (st 55 [(0, x0), (3, x3), (7, x7), (9, x9), (49, x49)]) h =
    bnd (aBinC tab .add 3 x9 (.int .i64 1) true) fun v1 =>
    k .normal (st 55 [(0, x0), (3, x3), (9, v1)]) h
  := by kernel_rfl
theorem r59_11c {β : Type} (call : CallF) (md : Bool) (n : Nat) (k : Ex → List AV → Heap → Option β) (x0 x3 x9 : AV) (h : Heap) :
    runK C0 call md 59 n (.region 11 (O59 11) false) k (st 55 [(0, x0), (3, x3), (9, x9)]) h =
    bnd (aBinC tab .add 3 x9 (.int .i64 1) true) fun v1 =>
    k .normal (st 55 [(0, x0), (3, x3), (9, v1)]) h
  := by kernel_rfl
theorem r59_12 {β : Type} (call : CallF) (md : Bool) (n : Nat) (k : Ex → List AV → Heap → Option β) (x0 x3 x9 x10 : AV) (h : Heap) :
    runK C0 call md 59 n (.region 12 (O59 12) false) k (st 55 [(0, x0), (3, x3), (9, x9), (10, x10)]) h =
    k .normal (st 55 [(2, x3)]) h
  := by kernel_rfl
end Go.Ax

set_option linter.unusedVariables false
namespace Go.Ax
open Go Go.Proofs
noncomputable def O60 (i : Nat) : Array Oper := opsOf i (bodyOf Try.f60)
theorem s60 : bodyOf Try.f60 = (.seq (.region 0 (O60 0) false) (.seq (.region 1 (O60 1) false) (.seq (.seq (.region 2 (O60 2) false) (.seq (.region 3 (O60 3) false) (.cond (Go.Operand.tmp 16) (.seq (.region 4 (O60 4) false) .ret) .skip))) (.seq (.region 5 (O60 5) false) .ret)))) := by kernel_rfl
theorem e60 : E0 60 = some ⟨20, [2], bodyOf Try.f60⟩ := by kernel_rfl
theorem r60_0 {β : Type} (call : CallF) (md : Bool) (n : Nat) (k : Ex → List AV → Heap → Option β) (x0 : AV) (h : Heap) :
    runK C0 call md 60 n (.region 0 (O60 0) false) k (st 20 [(0, x0)]) h =
    k .normal (st 20 [(0, x0)]) h
  := by kernel_rfl
theorem r60_1 {β : Type} (call : CallF) (md : Bool) (n : Nat) (k : Ex → List AV → Heap → Option β) (x0 : AV) (h : Heap) :
    runK C0 call md 60 n (.region 1 (O60 1) false) k (st 20 [(0, x0)]) h =
    bnd2 (aCall call md (.fn (.func 61) []) [x0, (.int .i64 1)] h) fun v1 h2 =>
    bnd (aExtract v1 0) fun v3 =>
    bnd (aExtract v1 1) fun v4 =>
    k .normal (st 20 [(0, x0), (3, v3), (4, v4)]) h2
  := by kernel_rfl
theorem r60_2 {β : Type} (call : CallF) (md : Bool) (n : Nat) (k : Ex → List AV → Heap → Option β) (x0 x3 x4 : AV) (h : Heap) :
    runK C0 call md 60 n (.region 2 (O60 2) false) k (st 20 [(0, x0), (3, x3), (4, x4)]) h =
    bnd2 (aCall call md (.fn (.func 19) []) [x0, x3, x4] h) fun v1 h2 =>
    k .normal (st 20 [(0, x0), (5, v1)]) h2
  := by kernel_rfl
theorem r60_3 {β : Type} (call : CallF) (md : Bool) (n : Nat) (k : Ex → List AV → Heap → Option β) (x0 x5 : AV) (h : Heap) :
    runK C0 call md 60 n (.region 3 (O60 3) false) k (st 20 [(0, x0), (5, x5)]) h =
    bnd (aBinC tab .neq 27 x5 (.int .i64 0) true) fun v1 =>
    k .normal (st 20 [(0, x0), (5, x5), (16, v1)]) h
  := by kernel_rfl
theorem r60_4 {β : Type} (call : CallF) (md : Bool) (n : Nat) (k : Ex → List AV → Heap → Option β) (x0 x5 x16 : AV) (h : Heap) :
    runK C0 call md 60 n (.region 4 (O60 4) false) k (st 20 [(0, x0), (5, x5), (16, x16)]) h =
    k .normal (st 20 [(2, x5)]) h
  := by kernel_rfl
theorem r60_5 {β : Type} (call : CallF) (md : Bool) (n : Nat) (k : Ex → List AV → Heap → Option β) (x0 x5 x16 : AV) (h : Heap) :
    runK C0 call md 60 n (.region 5 (O60 5) false) k (st 20 [(0, x0), (5, x5), (16, x16)]) h =
    bnd2 (aCall call md (.fn (.func 66) []) [x0, (.int .i64 1)] h) fun v1 h2 =>
    k .normal (st 20 [(2, v1)]) h2
  := by kernel_rfl
end Go.Ax

set_option linter.unusedVariables false
namespace Go.Ax
open Go Go.Proofs
noncomputable def O61 (i : Nat) : Array Oper := opsOf i (bodyOf Try.f61)
theorem s61 : bodyOf Try.f61 = (.seq (.region 0 (O61 0) false) (.seq (.region 1 (O61 1) false) (.seq (.region 2 (O61 2) false) (.seq (.region 3 (O61 3) false) .ret)))) := by kernel_rfl
theorem e61 : E0 61 = some ⟨20, [4, 5], bodyOf Try.f61⟩ := by kernel_rfl
theorem r61_0 {β : Type} (call : CallF) (md : Bool) (n : Nat) (k : Ex → List AV → Heap → Option β) (x0 x1 : AV) (h : Heap) :
    runK C0 call md 61 n (.region 0 (O61 0) false) k (st 20 [(0, x0), (1, x1)]) h =
    k .normal (st 20 [(0, x0), (1, x1)]) h
  := by kernel_rfl
theorem r61_1 {β : Type} (call : CallF) (md : Bool) (n : Nat) (k : Ex → List AV → Heap → Option β) (x0 x1 : AV) (h : Heap) :
    runK C0 call md 61 n (.region 1 (O61 1) false) k (st 20 [(0, x0), (1, x1)]) h =
    bnd2 (aCall call md (.fn (.func 46) []) [x0] h) fun v1 h2 =>
    bnd (aBinC tab .sub 3 v1 (.int .i64 2) true) fun v3 =>
    bnd (aBinC tab .quo 3 v3 (.int .i64 2) true) fun v4 =>
    k .normal (st 20 [(1, x1), (6, v4)]) h2
  := by kernel_rfl
theorem r61_2 {β : Type} (call : CallF) (md : Bool) (n : Nat) (k : Ex → List AV → Heap → Option β) (x1 x6 : AV) (h : Heap) :
    runK C0 call md 61 n (.region 2 (O61 2) false) k (st 20 [(1, x1), (6, x6)]) h =
    bnd (aBinC tab .rem 3 x1 (.int .i64 2) true) fun v1 =>
    bnd (aBinC tab .mul 3 v1 x6 false) fun v2 =>
    bnd (aBinC tab .add 3 (.int .i64 2) v2 true) fun v3 =>
    k .normal (st 20 [(4, v3), (6, x6)]) h
  := by kernel_rfl
theorem r61_3 {β : Type} (call : CallF) (md : Bool) (n : Nat) (k : Ex → List AV → Heap → Option β) (x4 x6 : AV) (h : Heap) :
    runK C0 call md 61 n (.region 3 (O61 3) false) k (st 20 [(4, x4), (6, x6)]) h =
    bnd (aBinC tab .add 3 x4 x6 false) fun v1 =>
    k .normal (st 20 [(4, x4), (5, v1)]) h
  := by kernel_rfl
end Go.Ax

set_option linter.unusedVariables false
namespace Go.Ax
open Go Go.Proofs
noncomputable def O66 (i : Nat) : Array Oper := opsOf i (bodyOf Try.f66)
theorem s66 : bodyOf Try.f66 = (.seq (.region 0 (O66 0) false) (.seq (.seq (.region 1 (O66 1) false) (.seq (.region 2 (O66 2) false) (.cond (Go.Operand.tmp 13) (.seq (.region 3 (O66 3) false) .ret) .skip))) (.seq (.region 4 (O66 4) false) .ret))) := by kernel_rfl
theorem e66 : E0 66 = some ⟨17, [4], bodyOf Try.f66⟩ := by kernel_rfl
theorem r66_0 {β : Type} (call : CallF) (md : Bool) (n : Nat) (k : Ex → List AV → Heap → Option β) (x0 x1 : AV) (h : Heap) :
    runK C0 call md 66 n (.region 0 (O66 0) false) k (st 17 [(0, x0), (1, x1)]) h =
    k .normal (st 17 [(0, x0), (1, x1)]) h
  := by kernel_rfl
theorem r66_1 {β : Type} (call : CallF) (md : Bool) (n : Nat) (k : Ex → List AV → Heap → Option β) (x0 x1 : AV) (h : Heap) :
    runK C0 call md 66 n (.region 1 (O66 1) false) k (st 17 [(0, x0), (1, x1)]) h =
    bnd (aBinC tab .rem 3 x1 (.int .i64 2) true) fun v1 =>
    bnd2 (aCall call md (.fn (.func 75) []) [x1] h) fun v2 h3 =>
    bnd2 (aCall call md (.fn (.func 17) []) [x0, v1, v2] h3) fun v4 h5 =>
    k .normal (st 17 [(0, x0), (5, v4)]) h5
  := by kernel_rfl
theorem r66_2 {β : Type} (call : CallF) (md : Bool) (n : Nat) (k : Ex → List AV → Heap → Option β) (x0 x5 : AV) (h : Heap) :
    runK C0 call md 66 n (.region 2 (O66 2) false) k (st 17 [(0, x0), (5, x5)]) h =
    bnd (aBinC tab .neq 27 x5 (.int .i64 0) true) fun v1 =>
    k .normal (st 17 [(0, x0), (5, x5), (13, v1)]) h
  := by kernel_rfl
theorem r66_3 {β : Type} (call : CallF) (md : Bool) (n : Nat) (k : Ex → List AV → Heap → Option β) (x0 x5 x13 : AV) (h : Heap) :
    runK C0 call md 66 n (.region 3 (O66 3) false) k (st 17 [(0, x0), (5, x5), (13, x13)]) h =
    k .normal (st 17 [(4, x5)]) h
  := by kernel_rfl
theorem r66_4 {β : Type} (call : CallF) (md : Bool) (n : Nat) (k : Ex → List AV → Heap → Option β) (x0 x5 x13 : AV) (h : Heap) :
    runK C0 call md 66 n (.region 4 (O66 4) false) k (st 17 [(0, x0), (5, x5), (13, x13)]) h =
    bnd2 (aCall call md (.fn (.func 18) []) [x0] h) fun v1 h2 =>
    k .normal (st 17 [(4, v1)]) h2
  := by kernel_rfl
end Go.Ax

set_option linter.unusedVariables false
namespace Go.Ax
open Go Go.Proofs
noncomputable def O75 (i : Nat) : Array Oper := opsOf i (bodyOf Try.f75)
theorem s75 : bodyOf Try.f75 = (.seq (.region 0 (O75 0) false) (.seq (.region 1 (O75 1) false) (.seq (.region 2 (O75 2) false) .ret))) := by kernel_rfl
theorem e75 : E0 75 = some ⟨11, [2], bodyOf Try.f75⟩ := by kernel_rfl
theorem r75_0 {β : Type} (call : CallF) (md : Bool) (n : Nat) (k : Ex → List AV → Heap → Option β) (x0 : AV) (h : Heap) :
    runK C0 call md 75 n (.region 0 (O75 0) false) k (st 11 [(0, x0)]) h =
    k .normal (st 11 [(0, x0)]) h
  := by kernel_rfl
theorem r75_1 {β : Type} (call : CallF) (md : Bool) (n : Nat) (k : Ex → List AV → Heap → Option β) (x0 : AV) (h : Heap) :
    runK C0 call md 75 n (.region 1 (O75 1) false) k (st 11 [(0, x0)]) h =
    bnd (aConv tab 3 105 x0 h) fun v1 =>
    bnd2 (aCall call md (.fn (.func 70) []) [.nils, v1] h) fun v2 h3 =>
    k .normal (st 11 [(3, v2)]) h3
  := by kernel_rfl
theorem r75_2 {β : Type} (call : CallF) (md : Bool) (n : Nat) (k : Ex → List AV → Heap → Option β) (x3 : AV) (h : Heap) :
    runK C0 call md 75 n (.region 2 (O75 2) false) k (st 11 [(3, x3)]) h =
    bnd2 (aCall call md (.fn (.func 71) []) [x3] h) fun v1 h2 =>
    bnd2 (aCall call md (.fn (.func 70) []) [x3, v1] h2) fun v3 h4 =>
    k .normal (st 11 [(2, v3)]) h4
  := by kernel_rfl
end Go.Ax

set_option linter.unusedVariables false
namespace Go.Ax
open Go Go.Proofs
noncomputable def O76 (i : Nat) : Array Oper := opsOf i (bodyOf Try.f76)
noncomputable def B76_1 : Code := (.seq (.region 2 (O76 2) false) (.seq (.cond (Go.Operand.tmp 8) .skip (.exit 0)) (.seq (.block 1 (.seq (.region 3 (O76 3) false) (.seq (.region 4 (O76 4) false) (.cond (Go.Operand.tmp 12) (.seq (.region 5 (O76 5) false) .ret) .skip)))) (.region 6 (O76 6) false))))
theorem s76 : bodyOf Try.f76 = (.seq (.region 0 (O76 0) false) (.seq (.seq (.region 1 (O76 1) false) (.block 0 (.loop B76_1))) (.seq (.region 7 (O76 7) false) .ret))) := by kernel_rfl
theorem e76 : E0 76 = some ⟨14, [2], bodyOf Try.f76⟩ := by kernel_rfl
theorem r76_0 {β : Type} (call : CallF) (md : Bool) (n : Nat) (k : Ex → List AV → Heap → Option β) (x0 : AV) (h : Heap) :
    runK C0 call md 76 n (.region 0 (O76 0) false) k (st 14 [(0, x0)]) h =
    k .normal (st 14 [(0, x0)]) h
  := by kernel_rfl
theorem r76_1 {β : Type} (call : CallF) (md : Bool) (n : Nat) (k : Ex → List AV → Heap → Option β) (x0 : AV) (h : Heap) :
    runK C0 call md 76 n (.region 1 (O76 1) false) k (st 14 [(0, x0)]) h =
    bnd (aLen tab 22 x0) fun v1 =>
    k .normal (st 14 [(5, x0), (6, v1), (7, (.int .i64 0))]) h
  := by kernel_rfl
theorem r76_2 {β : Type} (call : CallF) (md : Bool) (n : Nat) (k : Ex → List AV → Heap → Option β) (x5 x6 x7 : AV) (h : Heap) :
    runK C0 call md 76 n (.region 2 (O76 2) false) k (st 14 [(5, x5), (6, x6), (7, x7)]) h =
    bnd (aBinC tab .lss 3 x7 x6 false) fun v1 =>
    k .normal (st 14 [(5, x5), (6, x6), (7, x7), (8, v1)]) h
  := by kernel_rfl
theorem r76_3 {β : Type} (call : CallF) (md : Bool) (n : Nat) (k : Ex → List AV → Heap → Option β) (x5 x6 x7 x8 : AV) (h : Heap) :
    runK C0 call md 76 n (.region 3 (O76 3) false) k (st 14 [(5, x5), (6, x6), (7, x7), (8, x8)]) h =
    bnd (aIndexAddr tab 22 x5 x7) fun v1 =>
    bnd (aLoad tab 5 v1 h) fun v2 =>
    k .normal (st 14 [(4, v2), (5, x5), (6, x6), (7, x7)]) h
  := by kernel_rfl
theorem r76_4 {β : Type} (call : CallF) (md : Bool) (n : Nat) (k : Ex → List AV → Heap → Option β) (x4 x5 x6 x7 : AV) (h : Heap) :
    runK C0 call md 76 n (.region 4 (O76 4) false) k (st 14 [(4, x4), (5, x5), (6, x6), (7, x7)]) h =
    bnd (aBinC tab .neq 5 x4 (.int .u8 0) true) fun v1 =>
    k .normal (st 14 [(5, x5), (6, x6), (7, x7), (12, v1)]) h
  := by kernel_rfl
theorem r76_5 {β : Type} (call : CallF) (md : Bool) (n : Nat) (k : Ex → List AV → Heap → Option β) (x5 x6 x7 x12 : AV) (h : Heap) :
    runK C0 call md 76 n (.region 5 (O76 5) false) k (st 14 [(5, x5), (6, x6), (7, x7), (12, x12)]) h =
    k .normal (st 14 [(2, (.bool false))]) h
  := by kernel_rfl
theorem r76_6 {β : Type} (call : CallF) (md : Bool) (n : Nat) (k : Ex → List AV → Heap → Option β) (x5 x6 x7 x12 : AV) (h : Heap) :
    runK C0 call md 76 n (.region 6 (O76 6) false) k (st 14 [(5, x5), (6, x6), (7, x7), (12, x12)]) h =
    bnd (aBinC tab .add 3 x7 (.int .i64 1) true) fun v1 =>
    k .normal (st 14 [(5, x5), (6, x6), (7, v1)]) h
  := by kernel_rfl
theorem r76_7 {β : Type} (call : CallF) (md : Bool) (n : Nat) (k : Ex → List AV → Heap → Option β) (x5 x6 x7 x8 : AV) (h : Heap) :
    runK C0 call md 76 n (.region 7 (O76 7) false) k (st 14 [(5, x5), (6, x6), (7, x7), (8, x8)]) h =
    k .normal (st 14 [(2, (.bool true))]) h
  := by kernel_rfl
end Go.Ax

namespace Go.Ax
open Go Go.Proofs
def halfOf (n : Nat) : Nat := (n - 2) / 2
def fromOf (n gen : Nat) : Nat := 2 + gen % 2 * halfOf n
def toOf (n gen : Nat) : Nat := fromOf n gen + halfOf n
theorem mod2_cases (g : Nat) : g % 2 = 0 ∨ g % 2 = 1 := Nat.mod_two_eq_zero_or_one g
theorem toOf_le (n gen : Nat) (hn : 2 ≤ n) : toOf n gen ≤ n := by
  unfold toOf fromOf halfOf
  rcases mod2_cases gen with h | h <;> rw [h] <;> omega
theorem rem2_i64 (g : Nat) (hg : g < 2 ^ 62) (c : Bool) : aBinC tab .rem 3 (.int .i64 g) (.int .i64 2) c = some (.int .i64 ((g % 2 : Nat) : Int)) := by
  simp [aBinC, aBin, Go.binOp, Op.intDiv, ofPure, pure]
  rw [Int.tmod_eq_emod_of_nonneg (by omega)]
theorem quo2_i64 (g : Nat) (hg : g < 2 ^ 62) (c : Bool) : aBinC tab .quo 3 (.int .i64 g) (.int .i64 2) c = some (.int .i64 ((g / 2 : Nat) : Int)) := by
  simp [aBinC, aBin, Go.binOp, Op.intDiv, ofPure, pure]
  rw [wrap_i64 (by omega) (by omega)]
theorem bounds_ok {S : Obs} {p r : Nat} {h : Heap} {d : Dk} (D : Dsk S h p r d) (hn : 2 ≤ d.lasts.length) (gen : Nat) (hg : gen < 2 ^ 62) (md : Bool) (k : Nat) :
    exFn C0 E0 (k + 2) md 61 [dp p, .int .i64 gen] h = some (.tuple [.int .i64 (fromOf d.lasts.length gen : Nat), .int .i64 (toOf d.lasts.length gen : Nat)], h) := by
  have hfew := D.few
  refine exFn_of e61 ?_
  rw [fnK, show ([dp p, .int .i64 gen] ++ List.replicate (20 - [dp p, AV.int .i64 gen].length) AV.undef) = st 20 [(0, dp p), (1, .int .i64 gen)] from rfl, s61]
  have w1 : IntKind.i64.wrap (((d.lasts.length : Nat) : Int) - 2) = ((d.lasts.length - 2 : Nat) : Int) := by rw [wrap_i64] <;> omega
  have w2 : IntKind.i64.wrap (((gen % 2 : Nat) : Int) * (((d.lasts.length - 2) / 2 : Nat) : Int)) = ((gen % 2 * halfOf d.lasts.length : Nat) : Int) := by
    unfold halfOf
    rcases mod2_cases gen with h | h <;> rw [h, wrap_i64] <;> omega
  have hh : halfOf d.lasts.length ≤ 1024 := by unfold halfOf; omega
  have hg2 : gen % 2 * halfOf d.lasts.length ≤ 1024 := by rcases mod2_cases gen with h | h <;> rw [h] <;> omega
  have w3 : IntKind.i64.wrap (2 + ((gen % 2 * halfOf d.lasts.length : Nat) : Int)) = (fromOf d.lasts.length gen : Nat) := by unfold fromOf; rw [wrap_i64] <;> omega
  have w4 : IntKind.i64.wrap ((fromOf d.lasts.length gen : Nat) + (((d.lasts.length - 2) / 2 : Nat) : Int)) = (toOf d.lasts.length gen : Nat) := by
    rw [show (d.lasts.length - 2) / 2 = halfOf d.lasts.length from rfl, wrap_i64]
    · rfl
    · omega
    · unfold fromOf; omega
  simp -implicitDefEqProofs only [↓runK_seq, runK_seq, ↓runK_cond, runK_cond, ↓runK_block, runK_block, ↓runK_loop, runK_loop, ↓runK_skip, runK_skip, ↓runK_ret, runK_ret, ↓runK_exit, runK_exit, ↓seqE_n, seqE_n, ↓seqE_e, seqE_e, ↓seqE_r, seqE_r, ↓blkE_n, blkE_n, ↓blkE_e, blkE_e, ↓blkE_r, blkE_r, ↓retK_n, retK_n, ↓retK_r, retK_r, ↓aCall_fn, aCall_fn, ↓bnd_s, bnd_s, ↓bnd2_s, bnd2_s, ↓onB_t, onB_t, ↓onB_f, onB_f, ↓onG_tt, onG_tt, ↓onG_tf, onG_tf, ↓onG_ft, onG_ft, ↓onG_ff, onG_ff, ↓onG_s, onG_s, ↓onT_t, onT_t, ↓aPick_t, aPick_t, ↓aPick_f, aPick_f, decide_true, decide_false, st_tmp, results1, results2, List.lookup_cons, List.lookup_nil, Nat.reduceBEq, Bool.false_eq_true, ↓reduceIte, BEq.rfl, Nat.reduceLT, Option.getD_some, Option.getD_none, ↓r61_0, r61_0, ↓r61_1, r61_1, ↓r61_2, r61_2, ↓r61_3, r61_3, len_ok D, bin_sub, w1, quo2_i64 _ (show d.lasts.length - 2 < 2 ^ 62 by omega), rem2_i64 gen hg, bin_mul, w2, bin_add, w3, w4]
def superOf (gen : Nat) : List UInt8 := be4 (BitVec.ofNat 32 gen) ++ be4 (crc (be4 (BitVec.ofNat 32 gen)))
theorem superOf_length (gen : Nat) : (superOf gen).length = 8 := by simp [superOf, be4]
theorem super_ok (gen : Nat) (h : Heap) (k : Nat) (hk : 40 < k) :
    ∃ x h', exFn C0 E0 (k + 1) false 75 [.int .i64 gen] h = some (x, h') ∧ ApB (From h.length) h' x (superOf gen) ∧ Keep (From h.length) h h' := by
  obtain ⟨k, rfl⟩ : ∃ j, k = j + 1 := ⟨k - 1, by omega⟩
  have up := Up.fresh h
  have cv := conv_64_32 h gen
  rw [ofInt_nat] at cv
  obtain ⟨x1, h1, p1, a1, k1⟩ := put_ok (S := From h.length) (h := h) (x := .nils) (l := []) (.inl ⟨rfl, rfl⟩) up (by simp) (BitVec.ofNat 32 gen) k
  have sm := sum_of (l := be4 (BitVec.ofNat 32 gen)) a1.bs (by simp [be4]) false h1 (k + 1) (by simp [be4]; omega)
  obtain ⟨x2, h2, p2, a2, k2⟩ := put_ok (l := be4 (BitVec.ofNat 32 gen)) a1 (up.keep k1) (by simp [be4]) (crc (be4 (BitVec.ofNat 32 gen))) k
  refine ⟨x2, h2, exFn_of e75 ?_, a2, k1.trans k2⟩
  rw [fnK, show ([AV.int .i64 gen] ++ List.replicate (11 - [AV.int .i64 gen].length) AV.undef) = st 11 [(0, .int .i64 gen)] from rfl, s75]
  simp -implicitDefEqProofs only [↓runK_seq, runK_seq, ↓runK_cond, runK_cond, ↓runK_block, runK_block, ↓runK_loop, runK_loop, ↓runK_skip, runK_skip, ↓runK_ret, runK_ret, ↓runK_exit, runK_exit, ↓seqE_n, seqE_n, ↓seqE_e, seqE_e, ↓seqE_r, seqE_r, ↓blkE_n, blkE_n, ↓blkE_e, blkE_e, ↓blkE_r, blkE_r, ↓retK_n, retK_n, ↓retK_r, retK_r, ↓aCall_fn, aCall_fn, ↓bnd_s, bnd_s, ↓bnd2_s, bnd2_s, ↓onB_t, onB_t, ↓onB_f, onB_f, ↓onG_tt, onG_tt, ↓onG_tf, onG_tf, ↓onG_ft, onG_ft, ↓onG_ff, onG_ff, ↓onG_s, onG_s, ↓onT_t, onT_t, ↓aPick_t, aPick_t, ↓aPick_f, aPick_f, decide_true, decide_false, st_tmp, results1, results2, List.lookup_cons, List.lookup_nil, Nat.reduceBEq, Bool.false_eq_true, ↓reduceIte, BEq.rfl, Nat.reduceLT, Option.getD_some, Option.getD_none, ↓r75_0, r75_0, ↓r75_1, r75_1, ↓r75_2, r75_2, cv, p1, sm, p2]
theorem plain_loop {x : AV} {l : List UInt8} (hx : Bs x l) (hl : l.length < 2 ^ 62) (call : CallF) (md : Bool) (N : Nat) (h : Heap) (K : Ex → List AV → Heap → Option (AV × Heap)) :
    ∀ (m i n : Nat), i + m = l.length → m < n →
    loopK (fun next => runK C0 call md 76 N B76_1 (seqE next K)) n (st 14 [(5, x), (6, .int .i64 l.length), (7, .int .i64 i)]) h =
      if (l.drop i).all (· == 0) then K (.exit 0) (st 14 [(5, x), (6, .int .i64 l.length), (7, .int .i64 l.length), (8, .bool false)]) h else K .ret (st 14 [(2, .bool false)]) h := by
  intro m
  induction m with
  | zero =>
    intro i n hi hn
    obtain ⟨n, rfl⟩ : ∃ j, n = j + 1 := ⟨n - 1, by omega⟩
    obtain rfl : i = l.length := by omega
    rw [List.drop_length, loopK_succ]
    generalize loopK (_ : (List AV → Heap → Option (AV × Heap)) → List AV → Heap → Option (AV × Heap)) n = Lp
    have e : decide (((l.length : Nat) : Int) < (l.length : Nat)) = false := decide_eq_false (by omega)
    simp -implicitDefEqProofs only [B76_1, ↓runK_seq, runK_seq, ↓runK_cond, runK_cond, ↓runK_block, runK_block, ↓runK_loop, runK_loop, ↓runK_skip, runK_skip, ↓runK_ret, runK_ret, ↓runK_exit, runK_exit, ↓seqE_n, seqE_n, ↓seqE_e, seqE_e, ↓seqE_r, seqE_r, ↓blkE_n, blkE_n, ↓blkE_e, blkE_e, ↓blkE_r, blkE_r, ↓retK_n, retK_n, ↓retK_r, retK_r, ↓aCall_fn, aCall_fn, ↓bnd_s, bnd_s, ↓bnd2_s, bnd2_s, ↓onB_t, onB_t, ↓onB_f, onB_f, ↓onG_tt, onG_tt, ↓onG_tf, onG_tf, ↓onG_ft, onG_ft, ↓onG_ff, onG_ff, ↓onG_s, onG_s, ↓onT_t, onT_t, ↓aPick_t, aPick_t, ↓aPick_f, aPick_f, decide_true, decide_false, st_tmp, results1, results2, List.lookup_cons, List.lookup_nil, Nat.reduceBEq, Bool.false_eq_true, ↓reduceIte, BEq.rfl, Nat.reduceLT, Option.getD_some, Option.getD_none, ↓r76_0, r76_0, ↓r76_1, r76_1, ↓r76_2, r76_2, ↓r76_3, r76_3, ↓r76_4, r76_4, ↓r76_5, r76_5, ↓r76_6, r76_6, ↓r76_7, r76_7, bin_lss, e, List.all_nil]
  | succ m ih =>
    intro i n hi hn
    obtain ⟨n, rfl⟩ : ∃ j, n = j + 1 := ⟨n - 1, by omega⟩
    have e : decide (((i : Nat) : Int) < (l.length : Nat)) = true := decide_eq_true (by omega)
    have wr : IntKind.i64.wrap ((i : Int) + 1) = ((i + 1 : Nat) : Int) := by rw [wrap_i64] <;> omega
    obtain ⟨a, ha⟩ : ∃ a, l[i]? = some a := ⟨l[i]'(by omega), List.getElem?_eq_getElem _⟩
    have ih' := ih (i + 1) n (by omega) (by omega)
    rw [drop_get ha, loopK_succ]
    generalize loopK (_ : (List AV → Heap → Option (AV × Heap)) → List AV → Heap → Option (AV × Heap)) n = Lp at *
    have z0 : AV.int .u8 0 = U8 0 := rfl
    by_cases h0 : a = 0
    · have e1 : decide (a ≠ 0) = false := decide_eq_false fun h => h h0
      have e2 : (a :: l.drop (i + 1)).all (· == 0) = (l.drop (i + 1)).all (· == 0) := by simp [h0]
      rw [e2, ← ih']
      simp -implicitDefEqProofs only [B76_1, ↓runK_seq, runK_seq, ↓runK_cond, runK_cond, ↓runK_block, runK_block, ↓runK_loop, runK_loop, ↓runK_skip, runK_skip, ↓runK_ret, runK_ret, ↓runK_exit, runK_exit, ↓seqE_n, seqE_n, ↓seqE_e, seqE_e, ↓seqE_r, seqE_r, ↓blkE_n, blkE_n, ↓blkE_e, blkE_e, ↓blkE_r, blkE_r, ↓retK_n, retK_n, ↓retK_r, retK_r, ↓aCall_fn, aCall_fn, ↓bnd_s, bnd_s, ↓bnd2_s, bnd2_s, ↓onB_t, onB_t, ↓onB_f, onB_f, ↓onG_tt, onG_tt, ↓onG_tf, onG_tf, ↓onG_ft, onG_ft, ↓onG_ff, onG_ff, ↓onG_s, onG_s, ↓onT_t, onT_t, ↓aPick_t, aPick_t, ↓aPick_f, aPick_f, decide_true, decide_false, st_tmp, results1, results2, List.lookup_cons, List.lookup_nil, Nat.reduceBEq, Bool.false_eq_true, ↓reduceIte, BEq.rfl, Nat.reduceLT, Option.getD_some, Option.getD_none, ↓r76_0, r76_0, ↓r76_1, r76_1, ↓r76_2, r76_2, ↓r76_3, r76_3, ↓r76_4, r76_4, ↓r76_5, r76_5, ↓r76_6, r76_6, ↓r76_7, r76_7, bin_lss, e, hx.idx ha, load5, z0, u8_neq, e1, bin_add, wr]
    · have e1 : decide (a ≠ 0) = true := decide_eq_true h0
      have e2 : (a :: l.drop (i + 1)).all (· == 0) = false := by simp [h0]
      rw [e2, if_neg Bool.false_ne_true]
      simp -implicitDefEqProofs only [B76_1, ↓runK_seq, runK_seq, ↓runK_cond, runK_cond, ↓runK_block, runK_block, ↓runK_loop, runK_loop, ↓runK_skip, runK_skip, ↓runK_ret, runK_ret, ↓runK_exit, runK_exit, ↓seqE_n, seqE_n, ↓seqE_e, seqE_e, ↓seqE_r, seqE_r, ↓blkE_n, blkE_n, ↓blkE_e, blkE_e, ↓blkE_r, blkE_r, ↓retK_n, retK_n, ↓retK_r, retK_r, ↓aCall_fn, aCall_fn, ↓bnd_s, bnd_s, ↓bnd2_s, bnd2_s, ↓onB_t, onB_t, ↓onB_f, onB_f, ↓onG_tt, onG_tt, ↓onG_tf, onG_tf, ↓onG_ft, onG_ft, ↓onG_ff, onG_ff, ↓onG_s, onG_s, ↓onT_t, onT_t, ↓aPick_t, aPick_t, ↓aPick_f, aPick_f, decide_true, decide_false, st_tmp, results1, results2, List.lookup_cons, List.lookup_nil, Nat.reduceBEq, Bool.false_eq_true, ↓reduceIte, BEq.rfl, Nat.reduceLT, Option.getD_some, Option.getD_none, ↓r76_0, r76_0, ↓r76_1, r76_1, ↓r76_2, r76_2, ↓r76_3, r76_3, ↓r76_4, r76_4, ↓r76_5, r76_5, ↓r76_6, r76_6, ↓r76_7, r76_7, bin_lss, e, hx.idx ha, load5, z0, u8_neq, e1]
theorem plain_ok {x : AV} {l : List UInt8} (hx : Bs x l) (hl : l.length < 2 ^ 62) (md : Bool) (h : Heap) (k : Nat) (hk : l.length + 1 < k) : exFn C0 E0 (k + 1) md 76 [x] h = some (.bool (l.all (· == 0)), h) := by
  refine exFn_of e76 ?_
  rw [fnK, show ([x] ++ List.replicate (14 - [x].length) AV.undef) = st 14 [(0, x)] from rfl, s76]
  simp -implicitDefEqProofs only [↓runK_seq, runK_seq, ↓runK_cond, runK_cond, ↓runK_block, runK_block, ↓runK_loop, runK_loop, ↓runK_skip, runK_skip, ↓runK_ret, runK_ret, ↓runK_exit, runK_exit, ↓seqE_n, seqE_n, ↓seqE_e, seqE_e, ↓seqE_r, seqE_r, ↓blkE_n, blkE_n, ↓blkE_e, blkE_e, ↓blkE_r, blkE_r, ↓retK_n, retK_n, ↓retK_r, retK_r, ↓aCall_fn, aCall_fn, ↓bnd_s, bnd_s, ↓bnd2_s, bnd2_s, ↓onB_t, onB_t, ↓onB_f, onB_f, ↓onG_tt, onG_tt, ↓onG_tf, onG_tf, ↓onG_ft, onG_ft, ↓onG_ff, onG_ff, ↓onG_s, onG_s, ↓onT_t, onT_t, ↓aPick_t, aPick_t, ↓aPick_f, aPick_f, decide_true, decide_false, st_tmp, results1, results2, List.lookup_cons, List.lookup_nil, Nat.reduceBEq, Bool.false_eq_true, ↓reduceIte, BEq.rfl, Nat.reduceLT, Option.getD_some, Option.getD_none, ↓r76_0, r76_0, ↓r76_1, r76_1, ↓r76_2, r76_2, ↓r76_3, r76_3, ↓r76_4, r76_4, ↓r76_5, r76_5, ↓r76_6, r76_6, ↓r76_7, r76_7, hx.len]
  rw [show AV.int .i64 0 = .int .i64 ((0 : Nat) : Int) from rfl, plain_loop hx hl _ md k h _ l.length 0 k (by omega) (by omega), List.drop_zero]
  cases l.all (· == 0)
  · rw [if_neg Bool.false_ne_true]
    simp -implicitDefEqProofs only [↓runK_seq, runK_seq, ↓runK_cond, runK_cond, ↓runK_block, runK_block, ↓runK_loop, runK_loop, ↓runK_skip, runK_skip, ↓runK_ret, runK_ret, ↓runK_exit, runK_exit, ↓seqE_n, seqE_n, ↓seqE_e, seqE_e, ↓seqE_r, seqE_r, ↓blkE_n, blkE_n, ↓blkE_e, blkE_e, ↓blkE_r, blkE_r, ↓retK_n, retK_n, ↓retK_r, retK_r, ↓aCall_fn, aCall_fn, ↓bnd_s, bnd_s, ↓bnd2_s, bnd2_s, ↓onB_t, onB_t, ↓onB_f, onB_f, ↓onG_tt, onG_tt, ↓onG_tf, onG_tf, ↓onG_ft, onG_ft, ↓onG_ff, onG_ff, ↓onG_s, onG_s, ↓onT_t, onT_t, ↓aPick_t, aPick_t, ↓aPick_f, aPick_f, decide_true, decide_false, st_tmp, results1, results2, List.lookup_cons, List.lookup_nil, Nat.reduceBEq, Bool.false_eq_true, ↓reduceIte, BEq.rfl, Nat.reduceLT, Option.getD_some, Option.getD_none, ↓r76_0, r76_0, ↓r76_1, r76_1, ↓r76_2, r76_2, ↓r76_3, r76_3, ↓r76_4, r76_4, ↓r76_5, r76_5, ↓r76_6, r76_6, ↓r76_7, r76_7]
  · rw [if_pos rfl]
    simp -implicitDefEqProofs only [↓runK_seq, runK_seq, ↓runK_cond, runK_cond, ↓runK_block, runK_block, ↓runK_loop, runK_loop, ↓runK_skip, runK_skip, ↓runK_ret, runK_ret, ↓runK_exit, runK_exit, ↓seqE_n, seqE_n, ↓seqE_e, seqE_e, ↓seqE_r, seqE_r, ↓blkE_n, blkE_n, ↓blkE_e, blkE_e, ↓blkE_r, blkE_r, ↓retK_n, retK_n, ↓retK_r, retK_r, ↓aCall_fn, aCall_fn, ↓bnd_s, bnd_s, ↓bnd2_s, bnd2_s, ↓onB_t, onB_t, ↓onB_f, onB_f, ↓onG_tt, onG_tt, ↓onG_tf, onG_tf, ↓onG_ft, onG_ft, ↓onG_ff, onG_ff, ↓onG_s, onG_s, ↓onT_t, onT_t, ↓aPick_t, aPick_t, ↓aPick_f, aPick_f, decide_true, decide_false, st_tmp, results1, results2, List.lookup_cons, List.lookup_nil, Nat.reduceBEq, Bool.false_eq_true, ↓reduceIte, BEq.rfl, Nat.reduceLT, Option.getD_some, Option.getD_none, ↓r76_0, r76_0, ↓r76_1, r76_1, ↓r76_2, r76_2, ↓r76_3, r76_3, ↓r76_4, r76_4, ↓r76_5, r76_5, ↓r76_6, r76_6, ↓r76_7, r76_7]
def superGen (c : List UInt8) (n : Nat) : Nat :=
  let g := (get4 c).toNat
  if (1 ≤ g ∧ g ≤ 2147483647 ∧ g % 2 = n) ∧ superOf g = c.take 8 ∧ (c.drop 8).all (· == 0) = true then g else 0
def newest (now : List (List UInt8)) : Nat := max (superGen ((now[0]?).getD []) 0) (superGen ((now[1]?).getD []) 1)
theorem superGen_lt (c : List UInt8) (n : Nat) : superGen c n ≤ 2147483647 := by
  unfold superGen
  simp only
  split
  · rename_i h; exact h.1.2.1
  · omega
theorem newest_lt (now : List (List UInt8)) : newest now ≤ 2147483647 := by
  unfold newest
  have h1 := superGen_lt ((now[0]?).getD []) 0
  have h2 := superGen_lt ((now[1]?).getD []) 1
  omega
end Go.Ax

namespace Go.Ax
open Go Go.Proofs
theorem newest_step {S : Obs} {p r : Nat} {d : Dk} (hn : 2 ≤ d.lasts.length) (hl : d.loose.length < 2 ^ 30) (N : Nat) (hN : d.loose.length + 100 < N) (i best : Nat) (hi : i < 2) (n : Nat) (h : Heap) (D : Dsk S h p r d) :
    ∃ h', (∀ K : Ex → List AV → Heap → Option (AV × Heap), loopK (fun next => runK C0 (exFn C0 E0 (N + 1)) false 59 (N + 1) B59_1 (seqE next K)) (n + 1) (st 55 [(0, dp p), (3, .int .i64 best), (9, .int .i64 i)]) h =
      loopK (fun next => runK C0 (exFn C0 E0 (N + 1)) false 59 (N + 1) B59_1 (seqE next K)) n (st 55 [(0, dp p), (3, .int .i64 (max best (superGen ((d.now[i]?).getD []) i) : Nat)), (9, .int .i64 ((i + 1 : Nat) : Int))]) h') ∧ Keep (From h.length) h h' := by
  have e : decide (((i : Nat) : Int) < 2) = true := decide_eq_true (by omega)
  have wr : IntKind.i64.wrap ((i : Int) + 1) = ((i + 1 : Nat) : Int) := by rw [wrap_i64] <;> omega
  obtain ⟨y, h1, r1, r2, r3⟩ := read_ok D hl (i : Int) N (by omega)
  have hlt : i < d.now.length := by rw [D.now_length]; omega
  have hrd : d.read (i : Int) = (d.now[i], 0) := by
    unfold Dk.read
    rw [if_pos ⟨by omega, by rw [D.now_length] at hlt; omega⟩, Int.toNat_natCast, List.getElem?_eq_getElem hlt]
    rfl
  rw [hrd] at r1 r2
  have hlen := D.now_cells _ (List.getElem_mem hlt)
  rw [List.getElem?_eq_getElem hlt, Option.getD_some]
  generalize d.now[i] = c at *
  have by1 : Bs y c := r2.bs
  have g1 := get_ok by1 (by omega) (by omega) false h1 (N + 1) (by omega)
  have cv := conv_32_64 h1 (get4 c)
  have hg : (get4 c).toNat < 2 ^ 32 := (get4 c).isLt
  have hsg : superGen c i = if (1 ≤ (get4 c).toNat ∧ (get4 c).toNat ≤ 2147483647 ∧ (get4 c).toNat % 2 = i) ∧ superOf (get4 c).toNat = c.take 8 ∧ (c.drop 8).all (· == 0) = true then (get4 c).toNat else 0 := rfl
  generalize (get4 c).toNat = g at *
  have rm := rem2_i64 g (by omega) true
  by_cases q1 : g < 1
  · have e1 : decide ((g : Int) < 1) = true := decide_eq_true (by omega)
    have hz : superGen c i = 0 := by rw [hsg, if_neg]; omega
    refine ⟨h1, fun K => ?_, r3⟩
    rw [hz, Nat.max_zero, loopK_succ]
    generalize loopK (_ : (List AV → Heap → Option (AV × Heap)) → List AV → Heap → Option (AV × Heap)) n = Lp
    simp -implicitDefEqProofs only [B59_1, ↓runK_seq, runK_seq, ↓runK_cond, runK_cond, ↓runK_block, runK_block, ↓runK_loop, runK_loop, ↓runK_skip, runK_skip, ↓runK_ret, runK_ret, ↓runK_exit, runK_exit, ↓seqE_n, seqE_n, ↓seqE_e, seqE_e, ↓seqE_r, seqE_r, ↓blkE_n, blkE_n, ↓blkE_e, blkE_e, ↓blkE_r, blkE_r, ↓retK_n, retK_n, ↓retK_r, retK_r, ↓aCall_fn, aCall_fn, ↓bnd_s, bnd_s, ↓bnd2_s, bnd2_s, ↓onB_t, onB_t, ↓onB_f, onB_f, ↓onG_tt, onG_tt, ↓onG_tf, onG_tf, ↓onG_ft, onG_ft, ↓onG_ff, onG_ff, ↓onG_s, onG_s, ↓onT_t, onT_t, ↓aPick_t, aPick_t, ↓aPick_f, aPick_f, decide_true, decide_false, st_tmp, results1, results2, List.lookup_cons, List.lookup_nil, Nat.reduceBEq, Bool.false_eq_true, ↓reduceIte, BEq.rfl, Nat.reduceLT, Option.getD_some, Option.getD_none, ↓r59_0, r59_0, ↓r59_1, r59_1, ↓r59_2, r59_2, ↓r59_3, r59_3, ↓r59_4, r59_4, ↓r59_5, r59_5, ↓r59_6, r59_6, ↓r59_7, r59_7, J59_7_0, J59_7_1, J59_7_2, J59_7_3, J59_7_4, ↓r59_8, r59_8, ↓r59_9, r59_9, J59_9_0, J59_9_1, J59_9_2, ↓r59_10, r59_10, ↓r59_11a, r59_11a, ↓r59_11b, r59_11b, ↓r59_11c, r59_11c, ↓r59_12, r59_12, bin_lss, e, r1, ext0, ext1, g1, cv, e1, bin_add, wr]
  have e1 : decide ((g : Int) < 1) = false := decide_eq_false (by omega)
  by_cases q2 : 2147483647 < g
  · have e2 : decide ((2147483647 : Int) < (g : Int)) = true := decide_eq_true (by omega)
    have hz : superGen c i = 0 := by rw [hsg, if_neg]; omega
    refine ⟨h1, fun K => ?_, r3⟩
    rw [hz, Nat.max_zero, loopK_succ]
    generalize loopK (_ : (List AV → Heap → Option (AV × Heap)) → List AV → Heap → Option (AV × Heap)) n = Lp
    simp -implicitDefEqProofs only [B59_1, ↓runK_seq, runK_seq, ↓runK_cond, runK_cond, ↓runK_block, runK_block, ↓runK_loop, runK_loop, ↓runK_skip, runK_skip, ↓runK_ret, runK_ret, ↓runK_exit, runK_exit, ↓seqE_n, seqE_n, ↓seqE_e, seqE_e, ↓seqE_r, seqE_r, ↓blkE_n, blkE_n, ↓blkE_e, blkE_e, ↓blkE_r, blkE_r, ↓retK_n, retK_n, ↓retK_r, retK_r, ↓aCall_fn, aCall_fn, ↓bnd_s, bnd_s, ↓bnd2_s, bnd2_s, ↓onB_t, onB_t, ↓onB_f, onB_f, ↓onG_tt, onG_tt, ↓onG_tf, onG_tf, ↓onG_ft, onG_ft, ↓onG_ff, onG_ff, ↓onG_s, onG_s, ↓onT_t, onT_t, ↓aPick_t, aPick_t, ↓aPick_f, aPick_f, decide_true, decide_false, st_tmp, results1, results2, List.lookup_cons, List.lookup_nil, Nat.reduceBEq, Bool.false_eq_true, ↓reduceIte, BEq.rfl, Nat.reduceLT, Option.getD_some, Option.getD_none, ↓r59_0, r59_0, ↓r59_1, r59_1, ↓r59_2, r59_2, ↓r59_3, r59_3, ↓r59_4, r59_4, ↓r59_5, r59_5, ↓r59_6, r59_6, ↓r59_7, r59_7, J59_7_0, J59_7_1, J59_7_2, J59_7_3, J59_7_4, ↓r59_8, r59_8, ↓r59_9, r59_9, J59_9_0, J59_9_1, J59_9_2, ↓r59_10, r59_10, ↓r59_11a, r59_11a, ↓r59_11b, r59_11b, ↓r59_11c, r59_11c, ↓r59_12, r59_12, bin_lss, e, r1, ext0, ext1, g1, cv, e1, bin_gtr, e2, bin_add, wr]
  have e2 : decide ((2147483647 : Int) < (g : Int)) = false := decide_eq_false (by omega)
  by_cases q3 : g % 2 = i
  case neg =>
    have e3 : decide (((g % 2 : Nat) : Int) ≠ (i : Int)) = true := decide_eq_true (by omega)
    have hz : superGen c i = 0 := by rw [hsg, if_neg]; rintro ⟨⟨-, -, h⟩, -⟩; exact q3 h
    refine ⟨h1, fun K => ?_, r3⟩
    rw [hz, Nat.max_zero, loopK_succ]
    generalize loopK (_ : (List AV → Heap → Option (AV × Heap)) → List AV → Heap → Option (AV × Heap)) n = Lp
    simp -implicitDefEqProofs only [B59_1, ↓runK_seq, runK_seq, ↓runK_cond, runK_cond, ↓runK_block, runK_block, ↓runK_loop, runK_loop, ↓runK_skip, runK_skip, ↓runK_ret, runK_ret, ↓runK_exit, runK_exit, ↓seqE_n, seqE_n, ↓seqE_e, seqE_e, ↓seqE_r, seqE_r, ↓blkE_n, blkE_n, ↓blkE_e, blkE_e, ↓blkE_r, blkE_r, ↓retK_n, retK_n, ↓retK_r, retK_r, ↓aCall_fn, aCall_fn, ↓bnd_s, bnd_s, ↓bnd2_s, bnd2_s, ↓onB_t, onB_t, ↓onB_f, onB_f, ↓onG_tt, onG_tt, ↓onG_tf, onG_tf, ↓onG_ft, onG_ft, ↓onG_ff, onG_ff, ↓onG_s, onG_s, ↓onT_t, onT_t, ↓aPick_t, aPick_t, ↓aPick_f, aPick_f, decide_true, decide_false, st_tmp, results1, results2, List.lookup_cons, List.lookup_nil, Nat.reduceBEq, Bool.false_eq_true, ↓reduceIte, BEq.rfl, Nat.reduceLT, Option.getD_some, Option.getD_none, ↓r59_0, r59_0, ↓r59_1, r59_1, ↓r59_2, r59_2, ↓r59_3, r59_3, ↓r59_4, r59_4, ↓r59_5, r59_5, ↓r59_6, r59_6, ↓r59_7, r59_7, J59_7_0, J59_7_1, J59_7_2, J59_7_3, J59_7_4, ↓r59_8, r59_8, ↓r59_9, r59_9, J59_9_0, J59_9_1, J59_9_2, ↓r59_10, r59_10, ↓r59_11a, r59_11a, ↓r59_11b, r59_11b, ↓r59_11c, r59_11c, ↓r59_12, r59_12, bin_lss, e, r1, ext0, ext1, g1, cv, e1, bin_gtr, e2, rm, bin_neq, e3, bin_add, wr]
  have e3 : decide (((g % 2 : Nat) : Int) ≠ (i : Int)) = false := decide_eq_false (by omega)
  obtain ⟨x2, h2, s1, s2, s3⟩ := super_ok g h1 N (by omega)
  have len2 := s2.bs.len
  rw [superOf_length] at len2
  obtain ⟨z1, sz1, bz1⟩ := by1.to 8 (by omega)
  obtain ⟨z2, sz2, bz2⟩ := by1.from 8 (by omega)
  simp only [Int.cast_ofNat_Int] at sz1 sz2 len2
  have t1 := s2.bs.str h2
  have t2 := bz1.str h2
  have pk := plain_ok bz2 (by simp; omega) false h2 N (by simp; omega)
  have kk := r3.fresh s3 (Up.fresh h)
  by_cases q4 : superOf g = c.take 8
  case neg =>
    have hz : superGen c i = 0 := by rw [hsg, if_neg]; rintro ⟨-, h, -⟩; exact q4 h
    have e4 : ((⟨(superOf g).toArray⟩ : ByteArray).toList == (⟨(c.take 8).toArray⟩ : ByteArray).toList) = false := by
      rw [toList_mk, toList_mk]; simpa using q4
    refine ⟨h2, fun K => ?_, kk⟩
    rw [hz, Nat.max_zero, loopK_succ]
    generalize loopK (_ : (List AV → Heap → Option (AV × Heap)) → List AV → Heap → Option (AV × Heap)) n = Lp
    simp -implicitDefEqProofs only [B59_1, ↓runK_seq, runK_seq, ↓runK_cond, runK_cond, ↓runK_block, runK_block, ↓runK_loop, runK_loop, ↓runK_skip, runK_skip, ↓runK_ret, runK_ret, ↓runK_exit, runK_exit, ↓seqE_n, seqE_n, ↓seqE_e, seqE_e, ↓seqE_r, seqE_r, ↓blkE_n, blkE_n, ↓blkE_e, blkE_e, ↓blkE_r, blkE_r, ↓retK_n, retK_n, ↓retK_r, retK_r, ↓aCall_fn, aCall_fn, ↓bnd_s, bnd_s, ↓bnd2_s, bnd2_s, ↓onB_t, onB_t, ↓onB_f, onB_f, ↓onG_tt, onG_tt, ↓onG_tf, onG_tf, ↓onG_ft, onG_ft, ↓onG_ff, onG_ff, ↓onG_s, onG_s, ↓onT_t, onT_t, ↓aPick_t, aPick_t, ↓aPick_f, aPick_f, decide_true, decide_false, st_tmp, results1, results2, List.lookup_cons, List.lookup_nil, Nat.reduceBEq, Bool.false_eq_true, ↓reduceIte, BEq.rfl, Nat.reduceLT, Option.getD_some, Option.getD_none, ↓r59_0, r59_0, ↓r59_1, r59_1, ↓r59_2, r59_2, ↓r59_3, r59_3, ↓r59_4, r59_4, ↓r59_5, r59_5, ↓r59_6, r59_6, ↓r59_7, r59_7, J59_7_0, J59_7_1, J59_7_2, J59_7_3, J59_7_4, ↓r59_8, r59_8, ↓r59_9, r59_9, J59_9_0, J59_9_1, J59_9_2, ↓r59_10, r59_10, ↓r59_11a, r59_11a, ↓r59_11b, r59_11b, ↓r59_11c, r59_11c, ↓r59_12, r59_12, bin_lss, e, r1, ext0, ext1, g1, cv, e1, bin_gtr, e2, rm, bin_neq, e3, s1, len2, sz1, t1, t2, str_eql, e4, bin_add, wr]
  have e4 : ((⟨(superOf g).toArray⟩ : ByteArray).toList == (⟨(c.take 8).toArray⟩ : ByteArray).toList) = true := by
    rw [toList_mk, toList_mk]; simpa using q4
  cases q5 : (c.drop 8).all (· == 0)
  · have hz : superGen c i = 0 := by rw [hsg, if_neg]; rintro ⟨-, -, h⟩; rw [q5] at h; cases h
    rw [q5] at pk
    refine ⟨h2, fun K => ?_, kk⟩
    rw [hz, Nat.max_zero, loopK_succ]
    generalize loopK (_ : (List AV → Heap → Option (AV × Heap)) → List AV → Heap → Option (AV × Heap)) n = Lp
    simp -implicitDefEqProofs only [B59_1, ↓runK_seq, runK_seq, ↓runK_cond, runK_cond, ↓runK_block, runK_block, ↓runK_loop, runK_loop, ↓runK_skip, runK_skip, ↓runK_ret, runK_ret, ↓runK_exit, runK_exit, ↓seqE_n, seqE_n, ↓seqE_e, seqE_e, ↓seqE_r, seqE_r, ↓blkE_n, blkE_n, ↓blkE_e, blkE_e, ↓blkE_r, blkE_r, ↓retK_n, retK_n, ↓retK_r, retK_r, ↓aCall_fn, aCall_fn, ↓bnd_s, bnd_s, ↓bnd2_s, bnd2_s, ↓onB_t, onB_t, ↓onB_f, onB_f, ↓onG_tt, onG_tt, ↓onG_tf, onG_tf, ↓onG_ft, onG_ft, ↓onG_ff, onG_ff, ↓onG_s, onG_s, ↓onT_t, onT_t, ↓aPick_t, aPick_t, ↓aPick_f, aPick_f, decide_true, decide_false, st_tmp, results1, results2, List.lookup_cons, List.lookup_nil, Nat.reduceBEq, Bool.false_eq_true, ↓reduceIte, BEq.rfl, Nat.reduceLT, Option.getD_some, Option.getD_none, ↓r59_0, r59_0, ↓r59_1, r59_1, ↓r59_2, r59_2, ↓r59_3, r59_3, ↓r59_4, r59_4, ↓r59_5, r59_5, ↓r59_6, r59_6, ↓r59_7, r59_7, J59_7_0, J59_7_1, J59_7_2, J59_7_3, J59_7_4, ↓r59_8, r59_8, ↓r59_9, r59_9, J59_9_0, J59_9_1, J59_9_2, ↓r59_10, r59_10, ↓r59_11a, r59_11a, ↓r59_11b, r59_11b, ↓r59_11c, r59_11c, ↓r59_12, r59_12, bin_lss, e, r1, ext0, ext1, g1, cv, e1, bin_gtr, e2, rm, bin_neq, e3, s1, len2, sz1, t1, t2, str_eql, e4, sz2, pk, bin_add, wr]
  · have hz : superGen c i = g := by rw [hsg, if_pos ⟨⟨by omega, by omega, q3⟩, q4, q5⟩]
    rw [q5] at pk
    have mx : (if (best : Int) < (g : Int) then (g : Int) else (best : Int)) = (max best g : Nat) := by split <;> omega
    have mx2 := max2_i64 (best : Int) (g : Int)
    rw [mx] at mx2
    refine ⟨h2, fun K => ?_, kk⟩
    rw [hz, loopK_succ]
    generalize loopK (_ : (List AV → Heap → Option (AV × Heap)) → List AV → Heap → Option (AV × Heap)) n = Lp
    simp -implicitDefEqProofs only [B59_1, ↓runK_seq, runK_seq, ↓runK_cond, runK_cond, ↓runK_block, runK_block, ↓runK_loop, runK_loop, ↓runK_skip, runK_skip, ↓runK_ret, runK_ret, ↓runK_exit, runK_exit, ↓seqE_n, seqE_n, ↓seqE_e, seqE_e, ↓seqE_r, seqE_r, ↓blkE_n, blkE_n, ↓blkE_e, blkE_e, ↓blkE_r, blkE_r, ↓retK_n, retK_n, ↓retK_r, retK_r, ↓aCall_fn, aCall_fn, ↓bnd_s, bnd_s, ↓bnd2_s, bnd2_s, ↓onB_t, onB_t, ↓onB_f, onB_f, ↓onG_tt, onG_tt, ↓onG_tf, onG_tf, ↓onG_ft, onG_ft, ↓onG_ff, onG_ff, ↓onG_s, onG_s, ↓onT_t, onT_t, ↓aPick_t, aPick_t, ↓aPick_f, aPick_f, decide_true, decide_false, st_tmp, results1, results2, List.lookup_cons, List.lookup_nil, Nat.reduceBEq, Bool.false_eq_true, ↓reduceIte, BEq.rfl, Nat.reduceLT, Option.getD_some, Option.getD_none, ↓r59_0, r59_0, ↓r59_1, r59_1, ↓r59_2, r59_2, ↓r59_3, r59_3, ↓r59_4, r59_4, ↓r59_5, r59_5, ↓r59_6, r59_6, ↓r59_7, r59_7, J59_7_0, J59_7_1, J59_7_2, J59_7_3, J59_7_4, ↓r59_8, r59_8, ↓r59_9, r59_9, J59_9_0, J59_9_1, J59_9_2, ↓r59_10, r59_10, ↓r59_11a, r59_11a, ↓r59_11b, r59_11b, ↓r59_11c, r59_11c, ↓r59_12, r59_12, bin_lss, e, r1, ext0, ext1, g1, cv, e1, bin_gtr, e2, rm, bin_neq, e3, s1, len2, sz1, t1, t2, str_eql, e4, sz2, pk, mx2, bin_add, wr]
end Go.Ax

namespace Go.Ax
open Go Go.Proofs
theorem newest_ok {S : Obs} {p r : Nat} {h : Heap} {d : Dk} (D : Dsk S h p r d) (hn : 2 ≤ d.lasts.length) (hl : d.loose.length < 2 ^ 30) (k : Nat) (hk : d.loose.length + 110 < k) :
    ∃ h', exFn C0 E0 (k + 1) false 59 [dp p] h = some (.int .i64 (newest d.now : Nat), h') ∧ Keep (From h.length) h h' := by
  obtain ⟨k, rfl⟩ : ∃ j, k = j + 3 := ⟨k - 3, by omega⟩
  obtain ⟨h1, g1, k1⟩ := newest_step hn hl (k + 2) (by omega) 0 0 (by omega) (k + 2) h D
  obtain ⟨h2, g2, k2⟩ := newest_step hn hl (k + 2) (by omega) 1 (max 0 (superGen ((d.now[0]?).getD []) 0)) (by omega) (k + 1) h1 (D.fresh k1)
  refine ⟨h2, exFn_of e59 ?_, k1.fresh k2 (Up.fresh h)⟩
  rw [fnK, show ([dp p] ++ List.replicate (55 - [dp p].length) AV.undef) = st 55 [(0, dp p)] from rfl, s59]
  simp -implicitDefEqProofs only [↓runK_seq, runK_seq, ↓runK_cond, runK_cond, ↓runK_block, runK_block, ↓runK_loop, runK_loop, ↓runK_skip, runK_skip, ↓runK_ret, runK_ret, ↓runK_exit, runK_exit, ↓seqE_n, seqE_n, ↓seqE_e, seqE_e, ↓seqE_r, seqE_r, ↓blkE_n, blkE_n, ↓blkE_e, blkE_e, ↓blkE_r, blkE_r, ↓retK_n, retK_n, ↓retK_r, retK_r, ↓aCall_fn, aCall_fn, ↓bnd_s, bnd_s, ↓bnd2_s, bnd2_s, ↓onB_t, onB_t, ↓onB_f, onB_f, ↓onG_tt, onG_tt, ↓onG_tf, onG_tf, ↓onG_ft, onG_ft, ↓onG_ff, onG_ff, ↓onG_s, onG_s, ↓onT_t, onT_t, ↓aPick_t, aPick_t, ↓aPick_f, aPick_f, decide_true, decide_false, st_tmp, results1, results2, List.lookup_cons, List.lookup_nil, Nat.reduceBEq, Bool.false_eq_true, ↓reduceIte, BEq.rfl, Nat.reduceLT, Option.getD_some, Option.getD_none, r59_0, r59_1, r59_2]
  rw [show AV.int .i64 0 = .int .i64 ((0 : Nat) : Int) from rfl, g1, g2, loopK_succ]
  generalize loopK (_ : (List AV → Heap → Option (AV × Heap)) → List AV → Heap → Option (AV × Heap)) k = Lp
  have e : decide (((1 + 1 : Nat) : Int) < 2) = false := by decide
  have hnw : newest d.now = max (max 0 (superGen ((d.now[0]?).getD []) 0)) (superGen ((d.now[1]?).getD []) 1) := by unfold newest; omega
  rw [hnw]
  simp -implicitDefEqProofs only [B59_1, ↓runK_seq, runK_seq, ↓runK_cond, runK_cond, ↓runK_block, runK_block, ↓runK_loop, runK_loop, ↓runK_skip, runK_skip, ↓runK_ret, runK_ret, ↓runK_exit, runK_exit, ↓seqE_n, seqE_n, ↓seqE_e, seqE_e, ↓seqE_r, seqE_r, ↓blkE_n, blkE_n, ↓blkE_e, blkE_e, ↓blkE_r, blkE_r, ↓retK_n, retK_n, ↓retK_r, retK_r, ↓aCall_fn, aCall_fn, ↓bnd_s, bnd_s, ↓bnd2_s, bnd2_s, ↓onB_t, onB_t, ↓onB_f, onB_f, ↓onG_tt, onG_tt, ↓onG_tf, onG_tf, ↓onG_ft, onG_ft, ↓onG_ff, onG_ff, ↓onG_s, onG_s, ↓onT_t, onT_t, ↓aPick_t, aPick_t, ↓aPick_f, aPick_f, decide_true, decide_false, st_tmp, results1, results2, List.lookup_cons, List.lookup_nil, Nat.reduceBEq, Bool.false_eq_true, ↓reduceIte, BEq.rfl, Nat.reduceLT, Option.getD_some, Option.getD_none, ↓r59_0, r59_0, ↓r59_1, r59_1, ↓r59_2, r59_2, ↓r59_3, r59_3, ↓r59_4, r59_4, ↓r59_5, r59_5, ↓r59_6, r59_6, ↓r59_7, r59_7, J59_7_0, J59_7_1, J59_7_2, J59_7_3, J59_7_4, ↓r59_8, r59_8, ↓r59_9, r59_9, J59_9_0, J59_9_1, J59_9_2, ↓r59_10, r59_10, ↓r59_11a, r59_11a, ↓r59_11b, r59_11b, ↓r59_11c, r59_11c, ↓r59_12, r59_12, bin_lss, e]
def Dk.install (d : Dk) (gen : Nat) : Int × Dk :=
  let w := d.write ((gen % 2 : Nat) : Int) (superOf gen)
  if w.1 ≠ 0 then w else w.2.flush
theorem install_ok {S : Obs} {p r : Nat} {h : Heap} {d : Dk} (D : Dsk S h p r d) (up : Up S h) (hl : d.loose.length < 2 ^ 28) (hf : d.fuse < 2 ^ 63) (gen : Nat) (hg : gen < 2 ^ 62) (k : Nat) (hk : d.loose.length + 100 < k) :
    ∃ h', exFn C0 E0 (k + 1) false 66 [dp p, .int .i64 gen] h = some (.int .i64 (d.install gen).1, h') ∧ Dsk S h' p r (d.install gen).2 ∧ Keep S h h' := by
  obtain ⟨k, rfl⟩ : ∃ j, k = j + 4 := ⟨k - 4, by omega⟩
  obtain ⟨x, h1, s1, s2, s3⟩ := super_ok gen h (k + 3) (by omega)
  have D1 := D.fresh s3
  have up1 := up.keep s3
  obtain ⟨h2, w1, w2, w3⟩ := write_ok D1 up1 ((gen % 2 : Nat) : Int) (U := fun _ => False) (x := x) (b := superOf gen) (.inl s2.bs) (fun _ _ h => h.elim) (by omega) hf (k + 1)
  have hwl := write_loose d ((gen % 2 : Nat) : Int) (superOf gen)
  have hwf := write_fuse d ((gen % 2 : Nat) : Int) (superOf gen)
  unfold Dk.install
  generalize d.write ((gen % 2 : Nat) : Int) (superOf gen) = W at *
  obtain ⟨we, wd⟩ := W
  simp only at *
  have rm := rem2_i64 gen hg true
  have k12 := (s3.up up).trans w3
  by_cases z : we = 0
  · subst z
    obtain ⟨h3, f1, f2, f3⟩ := flush_ok w2 (up1.keep w3) (by omega) (by omega) false (k + 3) (by omega)
    rw [if_neg (fun h => h rfl)]
    refine ⟨h3, exFn_of e66 ?_, f2, k12.trans f3⟩
    have c0 : decide ((0 : Int) ≠ 0) = false := by decide
    rw [fnK, show ([dp p, .int .i64 gen] ++ List.replicate (17 - [dp p, AV.int .i64 gen].length) AV.undef) = st 17 [(0, dp p), (1, .int .i64 gen)] from rfl, s66]
    simp -implicitDefEqProofs only [↓runK_seq, runK_seq, ↓runK_cond, runK_cond, ↓runK_block, runK_block, ↓runK_loop, runK_loop, ↓runK_skip, runK_skip, ↓runK_ret, runK_ret, ↓runK_exit, runK_exit, ↓seqE_n, seqE_n, ↓seqE_e, seqE_e, ↓seqE_r, seqE_r, ↓blkE_n, blkE_n, ↓blkE_e, blkE_e, ↓blkE_r, blkE_r, ↓retK_n, retK_n, ↓retK_r, retK_r, ↓aCall_fn, aCall_fn, ↓bnd_s, bnd_s, ↓bnd2_s, bnd2_s, ↓onB_t, onB_t, ↓onB_f, onB_f, ↓onG_tt, onG_tt, ↓onG_tf, onG_tf, ↓onG_ft, onG_ft, ↓onG_ff, onG_ff, ↓onG_s, onG_s, ↓onT_t, onT_t, ↓aPick_t, aPick_t, ↓aPick_f, aPick_f, decide_true, decide_false, st_tmp, results1, results2, List.lookup_cons, List.lookup_nil, Nat.reduceBEq, Bool.false_eq_true, ↓reduceIte, BEq.rfl, Nat.reduceLT, Option.getD_some, Option.getD_none, ↓r66_0, r66_0, ↓r66_1, r66_1, ↓r66_2, r66_2, ↓r66_3, r66_3, ↓r66_4, r66_4, rm, s1, w1, neq27, c0, f1]
  · rw [if_pos z]
    refine ⟨h2, exFn_of e66 ?_, w2, k12⟩
    have c0 : decide (we ≠ 0) = true := decide_eq_true z
    rw [fnK, show ([dp p, .int .i64 gen] ++ List.replicate (17 - [dp p, AV.int .i64 gen].length) AV.undef) = st 17 [(0, dp p), (1, .int .i64 gen)] from rfl, s66]
    simp -implicitDefEqProofs only [↓runK_seq, runK_seq, ↓runK_cond, runK_cond, ↓runK_block, runK_block, ↓runK_loop, runK_loop, ↓runK_skip, runK_skip, ↓runK_ret, runK_ret, ↓runK_exit, runK_exit, ↓seqE_n, seqE_n, ↓seqE_e, seqE_e, ↓seqE_r, seqE_r, ↓blkE_n, blkE_n, ↓blkE_e, blkE_e, ↓blkE_r, blkE_r, ↓retK_n, retK_n, ↓retK_r, retK_r, ↓aCall_fn, aCall_fn, ↓bnd_s, bnd_s, ↓bnd2_s, bnd2_s, ↓onB_t, onB_t, ↓onB_f, onB_f, ↓onG_tt, onG_tt, ↓onG_tf, onG_tf, ↓onG_ft, onG_ft, ↓onG_ff, onG_ff, ↓onG_s, onG_s, ↓onT_t, onT_t, ↓aPick_t, aPick_t, ↓aPick_f, aPick_f, decide_true, decide_false, st_tmp, results1, results2, List.lookup_cons, List.lookup_nil, Nat.reduceBEq, Bool.false_eq_true, ↓reduceIte, BEq.rfl, Nat.reduceLT, Option.getD_some, Option.getD_none, ↓r66_0, r66_0, ↓r66_1, r66_1, ↓r66_2, r66_2, ↓r66_3, r66_3, ↓r66_4, r66_4, rm, s1, w1, neq27, c0]
def Dk.format (d : Dk) : Int × Dk :=
  let c := d.clean (fromOf d.lasts.length 1 : Nat) (toOf d.lasts.length 1 : Nat)
  if c.1 ≠ 0 then c else c.2.install 1
end Go.Ax

namespace Go.Ax
open Go Go.Proofs
theorem burn_loose (d : Dk) : d.burn.loose = d.loose := rfl
theorem burn_down {d : Dk} (h : d.down = true) : d.burn.down = true := by simp [Dk.burn, h]
theorem write_in {d : Dk} {a : Int} {b : List UInt8} (ha : d.has a) (hb : b.length ≤ 64) : d.write a b = if d.burn.down then (4, d.burn) else (0, d.burn.add (a.toNat, pad b)) := by
  unfold Dk.write
  rw [if_neg (by rintro (h | h); exact h ha; omega)]
theorem write_st {d : Dk} {a : Int} {b : List UInt8} (ha : d.has a) (hb : b.length ≤ 64) :
    ((d.write a b).1 = 4 ∧ (d.write a b).2.down = true ∧ (d.write a b).2.loose = d.loose) ∨ ((d.write a b).1 = 0 ∧ (d.write a b).2.down = false ∧ d.down = false ∧ (d.write a b).2.loose.length = d.loose.length + 1) := by
  rw [write_in ha hb]
  cases h : d.burn.down
  · right
    have hd : d.down = false := by
      cases hd : d.down
      · rfl
      · rw [burn_down hd] at h; cases h
    simp [Dk.add, h, hd, burn_loose]
  · left
    simp [h, burn_loose]
theorem flush_st (d : Dk) : (d.flush.1 = 4 ∧ d.flush.2.down = true ∧ d.flush.2.loose = d.loose) ∨ (d.flush.1 = 0 ∧ d.flush.2.down = false ∧ d.down = false ∧ d.flush.2.loose = []) := by
  unfold Dk.flush
  cases h : d.burn.down
  · right
    have hd : d.down = false := by
      cases hd : d.down
      · rfl
      · rw [burn_down hd] at h; cases h
    simp [h, hd]
  · left
    simp [h, burn_loose]
structure Sane (d : Dk) : Prop where
  up : d.down = false → d.loose = []
  few : d.loose.length ≤ 1100
  fuse : d.fuse < 2 ^ 63
  len : d.lasts.length ≤ 1024
theorem write_has {d : Dk} {a i : Int} {b : List UInt8} : (d.write a b).2.has i ↔ d.has i := by unfold Dk.has; rw [write_len]
theorem layLoop_st {at' : Int} {b : List UInt8} : ∀ (m i : Nat) (d : Dk), (∀ j, i ≤ j → j < i + m → d.has (at' + (j : Nat))) →
    ((layLoop at' b m i d).1 = 4 ∧ (layLoop at' b m i d).2.down = true ∧ (layLoop at' b m i d).2.loose.length ≤ d.loose.length + (if d.down then 0 else m)) ∨
    ((layLoop at' b m i d).1 = 0 ∧ (layLoop at' b m i d).2.down = d.down ∧ (layLoop at' b m i d).2.loose.length ≤ d.loose.length + (if d.down then 0 else m)) := by
  intro m
  induction m with
  | zero => intro i d _; right; rw [layLoop_zero]; simp
  | succ m ih =>
    intro i d h
    rcases write_st (h i (Nat.le_refl _) (by omega)) (chunk_length b i) with ⟨w1, w2, w3⟩ | ⟨w1, w2, w3, w4⟩
    · left
      rw [layLoop_no (by rw [w1]; decide), w1, w2, w3]
      simp
    · rw [layLoop_go w1]
      have := ih (i + 1) (d.write (at' + i) (chunk b i)).2 (fun j h1 h2 => write_has.2 (h j (by omega) (by omega)))
      rw [w2, w4] at this
      rw [w3]
      simp only [Bool.false_eq_true, if_false] at this ⊢
      rcases this with ⟨h1, h2, h3⟩ | ⟨h1, h2, h3⟩
      · exact .inl ⟨h1, h2, by omega⟩
      · exact .inr ⟨h1, h2, by omega⟩
theorem layLoop_len (at' : Int) (b : List UInt8) : ∀ m i d, (layLoop at' b m i d).2.lasts.length = d.lasts.length := by
  intro m
  induction m with
  | zero => intro i d; rfl
  | succ m ih =>
    intro i d
    by_cases h : (d.write (at' + i) (chunk b i)).1 = 0
    · rw [layLoop_go h, ih, write_len]
    · rw [layLoop_no h, write_len]
theorem lay_st {d : Dk} {at' e gen : Int} {b : List UInt8} (hs : Sane d) : Sane (d.lay at' e gen b).2 ∧ (d.lay at' e gen b).2.lasts.length = d.lasts.length ∧
    ((d.lay at' e gen b).1.2 = 0 ∨ (d.lay at' e gen b).1.2 = 4 ∨ (((d.lay at' e gen b).1.2 = 1 ∨ (d.lay at' e gen b).1.2 = 3) ∧ (d.lay at' e gen b).2 = d)) ∧
    ((d.lay at' e gen b).1.2 = 4 → (d.lay at' e gen b).2.down = true) ∧ ((d.lay at' e gen b).1.2 = 0 → d.down = false ∧ (d.lay at' e gen b).2.down = false) := by
  by_cases q1 : 8192 < b.length ∨ gen < 0 ∨ 2147483647 < gen ∨ at' < 0
  · rw [lay_arg q1]; exact ⟨hs, rfl, .inr (.inr ⟨.inl rfl, rfl⟩), fun h => (by cases h), fun h => by cases h⟩
  by_cases q2 : e < at' ∨ min e d.lasts.length - at' < sizeOf b.length
  · rw [lay_full q1 q2]; exact ⟨hs, rfl, .inr (.inr ⟨.inr rfl, rfl⟩), fun h => (by cases h), fun h => by cases h⟩
  have hsz : sizeOf b.length = 1 + ((b.length : Int) + 63) / 64 := by unfold sizeOf; omega
  have hlen := hs.len
  have hl := layLoop_st (at' := at') (b := b) ((sizeOf b.length).toNat - 1) 1 d (fun j h1 h2 => ⟨by omega, by omega⟩)
  have hll := layLoop_len at' b ((sizeOf b.length).toNat - 1) 1 d
  have hlf := layLoop_fuse at' b ((sizeOf b.length).toNat - 1) 1 d
  rw [lay_go q1 q2 rfl]
  generalize layLoop at' b ((sizeOf b.length).toNat - 1) 1 d = L at *
  obtain ⟨le, ld⟩ := L
  simp only at hl hll hlf ⊢
  have few := hs.few
  have fuse := hs.fuse
  have hm : d.loose.length + (if d.down = true then 0 else (sizeOf b.length).toNat - 1) ≤ 1100 := by
    split
    · omega
    · rename_i h
      rw [hs.up (by simpa using h)]
      simp only [List.length_nil]
      omega
  rcases hl with ⟨rfl, l2, l3⟩ | ⟨rfl, l2, l3⟩
  · rw [if_pos (by decide)]
    exact ⟨⟨fun h => (by rw [l2] at h; cases h), by simp only; omega, by simp only; omega, by simp only; omega⟩, hll, .inr (.inl rfl), fun _ => l2, fun h => by cases h⟩
  rw [if_neg (by decide)]
  have ff := flush_fuse ld
  have fl := flush_len ld
  have fs := flush_st ld
  generalize ld.flush = F at *
  obtain ⟨fe, fd⟩ := F
  simp only at ff fl fs ⊢
  rcases fs with ⟨rfl, f2, f3⟩ | ⟨rfl, f2, f3, f4⟩
  · rw [if_pos (by decide)]
    exact ⟨⟨fun h => (by rw [f2] at h; cases h), by simp only; rw [f3]; omega, by simp only; omega, by simp only; omega⟩, by simp only; omega, .inr (.inl rfl), fun _ => f2, fun h => by cases h⟩
  rw [if_neg (by decide)]
  have wf := write_fuse fd at' (head16 (BitVec.ofInt 32 gen) b)
  have wl := write_len fd at' (head16 (BitVec.ofInt 32 gen) b)
  have ws := write_st (d := fd) (a := at') (b := head16 (BitVec.ofInt 32 gen) b) ⟨by omega, by omega⟩ (by rw [head16_length]; omega)
  generalize fd.write at' (head16 (BitVec.ofInt 32 gen) b) = W at *
  obtain ⟨we, wd⟩ := W
  simp only at wf wl ws ⊢
  rcases ws with ⟨rfl, w2, w3⟩ | ⟨rfl, w2, w3, w4⟩
  · rw [if_pos (by decide)]
    exact ⟨⟨fun h => (by rw [w2] at h; cases h), by simp only; rw [w3, f4]; simp, by simp only; omega, by simp only; omega⟩, by simp only; omega, .inr (.inl rfl), fun _ => w2, fun h => by cases h⟩
  rw [if_neg (by decide)]
  have gf := flush_fuse wd
  have gl := flush_len wd
  have gs := flush_st wd
  generalize wd.flush = G at *
  obtain ⟨ge, gd⟩ := G
  simp only at gf gl gs ⊢
  rcases gs with ⟨rfl, g2, g3⟩ | ⟨rfl, g2, g3, g4⟩
  · rw [if_pos (by decide)]
    exact ⟨⟨fun h => (by rw [g2] at h; cases h), by simp only; rw [g3, w4, f4]; simp, by simp only; omega, by simp only; omega⟩, by simp only; omega, .inr (.inl rfl), fun _ => g2, fun h => by cases h⟩
  · rw [if_neg (by decide)]
    exact ⟨⟨fun _ => g4, by simp only; rw [g4]; simp, by simp only; omega, by simp only; omega⟩, by simp only; omega, .inl rfl, fun h => (by cases h), fun _ => ⟨by rw [← l2]; exact f3, g2⟩⟩
theorem cleanLoop_st : ∀ (m i : Nat) (s : Bool) (d : Dk), i + m ≤ d.lasts.length →
    (((cleanLoop m i s d).1 = 4 ∧ (cleanLoop m i s d).2.2.down = true) ∨ ((cleanLoop m i s d).1 = 0 ∧ (cleanLoop m i s d).2.2.down = d.down ∧ ((cleanLoop m i s d).2.1 = true ∨ (cleanLoop m i s d).2.2 = d))) ∧
    (cleanLoop m i s d).2.2.loose.length ≤ d.loose.length + (if d.down then 0 else m) := by
  intro m
  induction m with
  | zero => intro i s d _; rw [cleanLoop_zero]; simp
  | succ m ih =>
    intro i s d h
    cases hz : ((d.now[i]?).getD []).all (· == 0)
    · rcases write_st (d := d) (a := (i : Int)) (b := []) ⟨by omega, by omega⟩ (by simp) with ⟨w1, w2, w3⟩ | ⟨w1, w2, w3, w4⟩
      · rw [cleanLoop_no hz (by rw [w1]; decide), w1, w2, w3]
        simp
      · rw [cleanLoop_go hz w1]
        have hs : ∀ m i d, (cleanLoop m i true d).2.1 = true := by
          intro m
          induction m with
          | zero => intro i d; rfl
          | succ m ih =>
            intro i d
            cases hz : ((d.now[i]?).getD []).all (· == 0)
            · by_cases hw : (d.write i []).1 = 0
              · rw [cleanLoop_go hz hw]; exact ih _ _
              · rw [cleanLoop_no hz hw]
            · rw [cleanLoop_blank hz]; exact ih _ _
        have := ih (i + 1) true (d.write i []).2 (by rw [write_len]; omega)
        rw [w2, w4] at this
        rw [w3]
        simp only [Bool.false_eq_true, if_false] at this ⊢
        obtain ⟨h1, h2⟩ := this
        refine ⟨?_, by omega⟩
        rcases h1 with h1 | ⟨h1, h3, -⟩
        · exact .inl h1
        · exact .inr ⟨h1, h3, .inl (hs _ _ _)⟩
    · rw [cleanLoop_blank hz]
      obtain ⟨h1, h2⟩ := ih (i + 1) s d (by omega)
      refine ⟨h1, Nat.le_trans h2 ?_⟩
      split <;> omega
theorem clean_st {d : Dk} {a e : Int} (hs : Sane d) : Sane (d.clean a e).2 ∧ (d.clean a e).2.lasts.length = d.lasts.length ∧ ((d.clean a e).1 = 0 ∨ (d.clean a e).1 = 4) ∧ ((d.clean a e).1 = 4 → (d.clean a e).2.down = true) := by
  have few := hs.few
  have fuse := hs.fuse
  have len := hs.len
  have hc := cleanLoop_st (min e d.lasts.length - max a 0).toNat (max a 0).toNat false d
  have hl := cleanLoop_loose (min e d.lasts.length - max a 0).toNat (max a 0).toNat false d
  have hm : d.loose.length + (if d.down = true then 0 else (min e d.lasts.length - max a 0).toNat) ≤ 1100 := by
    split
    · omega
    · rename_i h
      rw [hs.up (by simpa using h)]
      simp only [List.length_nil]
      omega
  unfold Dk.clean
  by_cases h0 : (max a 0).toNat + (min e d.lasts.length - max a 0).toNat ≤ d.lasts.length
  case neg =>
    have : (min e d.lasts.length - max a 0).toNat = 0 := by omega
    rw [this, cleanLoop_zero]
    simp only [ne_eq, not_true_eq_false, if_false, Bool.false_eq_true]
    exact ⟨hs, trivial, .inl trivial, fun h => by cases h⟩
  have hc := hc h0
  generalize cleanLoop (min e d.lasts.length - max a 0).toNat (max a 0).toNat false d = L at *
  obtain ⟨le, ls, ld⟩ := L
  simp only at hc hl ⊢
  obtain ⟨hc, hlo⟩ := hc
  rcases hc with ⟨rfl, c2⟩ | ⟨rfl, c2, c3⟩
  · rw [if_pos (by decide)]
    exact ⟨⟨fun h => (by rw [c2] at h; cases h), by simp only; omega, by simp only; omega, by simp only; omega⟩, hl.2.2, .inr rfl, fun _ => c2⟩
  rw [if_neg (by decide)]
  cases ls
  · simp only [Bool.false_eq_true, if_false]
    obtain rfl : ld = d := by simpa using c3
    exact ⟨hs, rfl, .inl trivial, fun h => by cases h⟩
  · simp only [if_true]
    have ff := flush_fuse ld
    have fl := flush_len ld
    have fs := flush_st ld
    generalize ld.flush = F at *
    obtain ⟨fe, fd⟩ := F
    simp only at ff fl fs ⊢
    rcases fs with ⟨rfl, f2, f3⟩ | ⟨rfl, f2, f3, f4⟩
    · exact ⟨⟨fun h => (by rw [f2] at h; cases h), by rw [f3]; omega, by omega, by omega⟩, by omega, .inr rfl, fun _ => f2⟩
    · exact ⟨⟨fun _ => f4, by rw [f4]; simp, by omega, by omega⟩, by omega, .inl rfl, fun h => by cases h⟩
theorem install_st {d : Dk} {gen : Nat} (hs : Sane d) (h2 : 2 ≤ d.lasts.length) : Sane (d.install gen).2 ∧ (d.install gen).2.lasts.length = d.lasts.length ∧ ((d.install gen).1 = 0 ∨ (d.install gen).1 = 4) ∧ ((d.install gen).1 = 4 → (d.install gen).2.down = true) := by
  have few := hs.few
  have fuse := hs.fuse
  have len := hs.len
  have wf := write_fuse d ((gen % 2 : Nat) : Int) (superOf gen)
  have wl := write_len d ((gen % 2 : Nat) : Int) (superOf gen)
  have ws := write_st (d := d) (a := ((gen % 2 : Nat) : Int)) (b := superOf gen) ⟨by omega, by omega⟩ (by rw [superOf_length]; omega)
  unfold Dk.install
  generalize d.write ((gen % 2 : Nat) : Int) (superOf gen) = W at *
  obtain ⟨we, wd⟩ := W
  simp only at wf wl ws ⊢
  rcases ws with ⟨rfl, w2, w3⟩ | ⟨rfl, w2, w3, w4⟩
  · rw [if_pos (by decide)]
    exact ⟨⟨fun h => (by rw [w2] at h; cases h), by simp only; rw [w3]; omega, by simp only; omega, by simp only; omega⟩, wl, .inr rfl, fun _ => w2⟩
  rw [if_neg (by decide)]
  have gf := flush_fuse wd
  have gl := flush_len wd
  have gs := flush_st wd
  generalize wd.flush = G at *
  obtain ⟨ge, gd⟩ := G
  simp only at gf gl gs ⊢
  rcases gs with ⟨rfl, g2, g3⟩ | ⟨rfl, g2, g3, g4⟩
  · exact ⟨⟨fun h => (by rw [g2] at h; cases h), by rw [g3, w4, hs.up w3]; simp, by omega, by omega⟩, by omega, .inr rfl, fun _ => g2⟩
  · exact ⟨⟨fun _ => g4, by rw [g4]; simp, by omega, by omega⟩, by omega, .inl rfl, fun h => by cases h⟩
theorem format_st {d : Dk} (hs : Sane d) (h2 : 2 ≤ d.lasts.length) : Sane d.format.2 ∧ d.format.2.lasts.length = d.lasts.length ∧ (d.format.1 = 0 ∨ d.format.1 = 4) ∧ (d.format.1 = 4 → d.format.2.down = true) := by
  obtain ⟨c1, c2, c3, c4⟩ := clean_st (a := (fromOf d.lasts.length 1 : Nat)) (e := (toOf d.lasts.length 1 : Nat)) hs
  unfold Dk.format
  generalize d.clean (fromOf d.lasts.length 1 : Nat) (toOf d.lasts.length 1 : Nat) = C at *
  obtain ⟨ce, cd⟩ := C
  simp only at *
  split
  · exact ⟨c1, c2, c3, c4⟩
  · have := install_st (gen := 1) c1 (by omega)
    rw [c2] at this
    exact this
end Go.Ax

set_option linter.unusedVariables false
namespace Go.Ax
open Go Go.Proofs
noncomputable def O31 (i : Nat) : Array Oper := opsOf i (bodyOf Try.f31)
theorem s31 : bodyOf Try.f31 = (.seq (.region 0 (O31 0) false) (.seq (.seq (.region 1 (O31 1) false) (.cond (Go.Operand.tmp 14) (.seq (.region 2 (O31 2) false) .ret) .skip)) (.seq (.region 3 (O31 3) false) (.seq (.seq (.region 4 (O31 4) false) (.cond (Go.Operand.tmp 18) (.seq (.seq (.region 5 (O31 5) false) (.seq (.region 6 (O31 6) false) (.cond (Go.Operand.tmp 22) (.seq (.region 7 (O31 7) false) .ret) .skip))) (.region 8 (O31 8) false)) .skip)) (.seq (.region 9 (O31 9) false) (.seq (.region 10 (O31 10) false) (.seq (.seq (.region 11 (O31 11) false) (.seq (.region 12 (O31 12) false) (.cond (Go.Operand.tmp 43) (.seq (.region 13 (O31 13) false) .ret) .skip))) (.seq (.region 14 (O31 14) false) .ret)))))))) := by kernel_rfl
theorem e31 : E0 31 = some ⟨51, [2, 3, 4], bodyOf Try.f31⟩ := by kernel_rfl
theorem r31_0 {β : Type} (call : CallF) (md : Bool) (n : Nat) (k : Ex → List AV → Heap → Option β) (x0 : AV) (h : Heap) :
    runK C0 call md 31 n (.region 0 (O31 0) false) k (st 51 [(0, x0)]) h =
    k .normal (st 51 [(0, x0)]) h
  := by kernel_rfl
theorem r31_1 {β : Type} (call : CallF) (md : Bool) (n : Nat) (k : Ex → List AV → Heap → Option β) (x0 : AV) (h : Heap) :
    runK C0 call md 31 n (.region 1 (O31 1) false) k (st 51 [(0, x0)]) h =
    bnd2 (aCall call md (.fn (.func 46) []) [x0] h) fun v1 h2 =>
    bnd (aBinC tab .lss 3 v1 (.int .i64 4) true) fun v3 =>
    k .normal (st 51 [(0, x0), (14, v3)]) h2
  := by kernel_rfl
theorem r31_2 {β : Type} (call : CallF) (md : Bool) (n : Nat) (k : Ex → List AV → Heap → Option β) (x0 x14 : AV) (h : Heap) :
    runK C0 call md 31 n (.region 2 (O31 2) false) k (st 51 [(0, x0), (14, x14)]) h =
    k .normal (st 51 [(2, .nilp), (3, .nils), (4, (.int .i64 1))]) h
  := by kernel_rfl
theorem r31_3 {β : Type} (call : CallF) (md : Bool) (n : Nat) (k : Ex → List AV → Heap → Option β) (x0 x14 : AV) (h : Heap) :
    runK C0 call md 31 n (.region 3 (O31 3) false) k (st 51 [(0, x0), (14, x14)]) h =
    bnd2 (aCall call md (.fn (.func 59) []) [x0] h) fun v1 h2 =>
    k .normal (st 51 [(0, x0), (5, v1)]) h2
  := by kernel_rfl
theorem r31_4 {β : Type} (call : CallF) (md : Bool) (n : Nat) (k : Ex → List AV → Heap → Option β) (x0 x5 : AV) (h : Heap) :
    runK C0 call md 31 n (.region 4 (O31 4) false) k (st 51 [(0, x0), (5, x5)]) h =
    bnd (aBinC tab .eql 3 x5 (.int .i64 0) true) fun v1 =>
    k .normal (st 51 [(0, x0), (5, x5), (18, v1)]) h
  := by kernel_rfl
theorem r31_5 {β : Type} (call : CallF) (md : Bool) (n : Nat) (k : Ex → List AV → Heap → Option β) (x0 x5 x18 : AV) (h : Heap) :
    runK C0 call md 31 n (.region 5 (O31 5) false) k (st 51 [(0, x0), (5, x5), (18, x18)]) h =
    bnd2 (aCall call md (.fn (.func 60) []) [x0] h) fun v1 h2 =>
    k .normal (st 51 [(0, x0), (6, v1)]) h2
  := by kernel_rfl
theorem r31_6 {β : Type} (call : CallF) (md : Bool) (n : Nat) (k : Ex → List AV → Heap → Option β) (x0 x6 : AV) (h : Heap) :
    runK C0 call md 31 n (.region 6 (O31 6) false) k (st 51 [(0, x0), (6, x6)]) h =
    bnd (aBinC tab .neq 27 x6 (.int .i64 0) true) fun v1 =>
    k .normal (st 51 [(0, x0), (6, x6), (22, v1)]) h
  := by kernel_rfl
theorem r31_7 {β : Type} (call : CallF) (md : Bool) (n : Nat) (k : Ex → List AV → Heap → Option β) (x0 x6 x22 : AV) (h : Heap) :
    runK C0 call md 31 n (.region 7 (O31 7) false) k (st 51 [(0, x0), (6, x6), (22, x22)]) h =
    k .normal (st 51 [(2, .nilp), (3, .nils), (4, x6)]) h
  := by kernel_rfl
theorem r31_8 {β : Type} (call : CallF) (md : Bool) (n : Nat) (k : Ex → List AV → Heap → Option β) (x0 x6 x22 : AV) (h : Heap) :
    runK C0 call md 31 n (.region 8 (O31 8) false) k (st 51 [(0, x0), (6, x6), (22, x22)]) h =
    k .normal (st 51 [(0, x0), (5, (.int .i64 1))]) h
  := by kernel_rfl
theorem r31_9a {β : Type} (call : CallF) (md : Bool) (n : Nat) (k : Ex → List AV → Heap → Option β) (x0 x5 x18 : AV) (h : Heap) :
    runK C0 call md 31 n (.region 9 (O31 9) false) k (st 51 [(0, x0), (5, x5), (18, x18)]) h =
    bnd2 (aCall call md (.fn (.func 61) []) [x0, x5] h) fun v1 h2 =>
    bnd (aExtract v1 0) fun v3 =>
    bnd (aExtract v1 1) fun v4 =>
    k .normal (st 51 [(0, x0), (5, x5), (7, v3), (8, v4)]) h2
  := by kernel_rfl
theorem r31_9b {β : Type} (call : CallF) (md : Bool) (n : Nat) (k : Ex → List AV → Heap → Option β) (x0 x5 : AV) (h : Heap) :
    runK C0 call md 31 n (.region 9 (O31 9) false) k (st 51 [(0, x0), (5, x5)]) h =
    bnd2 (aCall call md (.fn (.func 61) []) [x0, x5] h) fun v1 h2 =>
    bnd (aExtract v1 0) fun v3 =>
    bnd (aExtract v1 1) fun v4 =>
    k .normal (st 51 [(0, x0), (5, x5), (7, v3), (8, v4)]) h2
  := by kernel_rfl
theorem r31_10 {β : Type} (call : CallF) (md : Bool) (n : Nat) (k : Ex → List AV → Heap → Option β) (x0 x5 x7 x8 : AV) (h : Heap) :
    runK C0 call md 31 n (.region 10 (O31 10) false) k (st 51 [(0, x0), (5, x5), (7, x7), (8, x8)]) h =
    bnd2 (aCall call md (.fn (.func 15) []) [x0, x7, x8, x5] h) fun v1 h2 =>
    bnd (aExtract v1 0) fun v3 =>
    bnd (aExtract v1 1) fun v4 =>
    k .normal (st 51 [(0, x0), (5, x5), (8, x8), (9, v3), (10, v4)]) h2
  := by kernel_rfl
theorem r31_11 {β : Type} (call : CallF) (md : Bool) (n : Nat) (k : Ex → List AV → Heap → Option β) (x0 x5 x8 x9 x10 : AV) (h : Heap) :
    runK C0 call md 31 n (.region 11 (O31 11) false) k (st 51 [(0, x0), (5, x5), (8, x8), (9, x9), (10, x10)]) h =
    bnd2 (aCall call md (.fn (.func 19) []) [x0, x10, x8] h) fun v1 h2 =>
    k .normal (st 51 [(0, x0), (5, x5), (9, x9), (10, x10), (11, v1)]) h2
  := by kernel_rfl
theorem r31_12 {β : Type} (call : CallF) (md : Bool) (n : Nat) (k : Ex → List AV → Heap → Option β) (x0 x5 x9 x10 x11 : AV) (h : Heap) :
    runK C0 call md 31 n (.region 12 (O31 12) false) k (st 51 [(0, x0), (5, x5), (9, x9), (10, x10), (11, x11)]) h =
    bnd (aBinC tab .neq 27 x11 (.int .i64 0) true) fun v1 =>
    k .normal (st 51 [(0, x0), (5, x5), (9, x9), (10, x10), (11, x11), (43, v1)]) h
  := by kernel_rfl
theorem r31_13 {β : Type} (call : CallF) (md : Bool) (n : Nat) (k : Ex → List AV → Heap → Option β) (x0 x5 x9 x10 x11 x43 : AV) (h : Heap) :
    runK C0 call md 31 n (.region 13 (O31 13) false) k (st 51 [(0, x0), (5, x5), (9, x9), (10, x10), (11, x11), (43, x43)]) h =
    k .normal (st 51 [(2, .nilp), (3, .nils), (4, x11)]) h
  := by kernel_rfl
theorem r31_14 {β : Type} (call : CallF) (md : Bool) (n : Nat) (k : Ex → List AV → Heap → Option β) (x0 x5 x9 x10 x11 x43 : AV) (h : Heap) :
    runK C0 call md 31 n (.region 14 (O31 14) false) k (st 51 [(0, x0), (5, x5), (9, x9), (10, x10), (11, x11), (43, x43)]) h =
    bnd (aBuild tab 104 [(0, x0), (1, x5), (2, x10)]) fun v1 =>
    bnd2 (aBoxv tab 104 v1 h) fun v2 h3 =>
    k .normal (st 51 [(2, v2), (3, x9), (4, (.int .i64 0))]) h3
  := by kernel_rfl
end Go.Ax

namespace Go.Ax
open Go Go.Proofs
theorem Sane.loose {d : Dk} (s : Sane d) : d.loose.length < 2 ^ 20 := by have := s.few; omega
theorem format_ok {S : Obs} {p r : Nat} {h : Heap} {d : Dk} (D : Dsk S h p r d) (up : Up S h) (hn : 2 ≤ d.lasts.length) (s : Sane d) (k : Nat) (hk : 10300 < k) :
    ∃ h', exFn C0 E0 (k + 1) false 60 [dp p] h = some (.int .i64 d.format.1, h') ∧ Dsk S h' p r d.format.2 ∧ Keep S h h' := by
  obtain ⟨k, rfl⟩ : ∃ j, k = j + 2 := ⟨k - 2, by omega⟩
  have few := s.few
  have bk := bounds_ok D hn 1 (by omega) false k
  rw [show ((1 : Nat) : Int) = 1 from rfl] at bk
  obtain ⟨h1, c1, c2, c3⟩ := clean_ok D up (by omega) s.fuse (fromOf d.lasts.length 1 : Nat) (toOf d.lasts.length 1 : Nat) (k + 1) (by omega)
  obtain ⟨s1, sl, -, -⟩ := clean_st (a := (fromOf d.lasts.length 1 : Nat)) (e := (toOf d.lasts.length 1 : Nat)) s
  unfold Dk.format
  generalize d.clean (fromOf d.lasts.length 1 : Nat) (toOf d.lasts.length 1 : Nat) = C at *
  obtain ⟨ce, cd⟩ := C
  simp only at *
  have n0 : ([dp p] ++ List.replicate (20 - [dp p].length) AV.undef) = st 20 [(0, dp p)] := rfl
  by_cases z : ce = 0
  · subst z
    have few1 := s1.few
    obtain ⟨h2, i1, i2, i3⟩ := install_ok c2 (up.keep c3) (by omega) s1.fuse 1 (by omega) (k + 1) (by omega)
    rw [show ((1 : Nat) : Int) = 1 from rfl] at i1
    have c0 : decide ((0 : Int) ≠ 0) = false := by decide
    rw [if_neg (by decide)]
    refine ⟨h2, exFn_of e60 ?_, i2, c3.trans i3⟩
    rw [fnK, n0, s60]
    simp -implicitDefEqProofs only [↓runK_seq, runK_seq, ↓runK_cond, runK_cond, ↓runK_block, runK_block, ↓runK_loop, runK_loop, ↓runK_skip, runK_skip, ↓runK_ret, runK_ret, ↓runK_exit, runK_exit, ↓seqE_n, seqE_n, ↓seqE_e, seqE_e, ↓seqE_r, seqE_r, ↓blkE_n, blkE_n, ↓blkE_e, blkE_e, ↓blkE_r, blkE_r, ↓retK_n, retK_n, ↓retK_r, retK_r, ↓aCall_fn, aCall_fn, ↓bnd_s, bnd_s, ↓bnd2_s, bnd2_s, ↓onB_t, onB_t, ↓onB_f, onB_f, ↓onG_tt, onG_tt, ↓onG_tf, onG_tf, ↓onG_ft, onG_ft, ↓onG_ff, onG_ff, ↓onG_s, onG_s, ↓onT_t, onT_t, ↓aPick_t, aPick_t, ↓aPick_f, aPick_f, decide_true, decide_false, st_tmp, results1, results2, List.lookup_cons, List.lookup_nil, Nat.reduceBEq, Bool.false_eq_true, ↓reduceIte, BEq.rfl, Nat.reduceLT, Option.getD_some, Option.getD_none, ↓r60_0, r60_0, ↓r60_1, r60_1, ↓r60_2, r60_2, ↓r60_3, r60_3, ↓r60_4, r60_4, ↓r60_5, r60_5, bk, ext0, ext1, c1, neq27, c0, i1]
  · rw [if_pos z]
    have c0 : decide (ce ≠ 0) = true := decide_eq_true z
    refine ⟨h1, exFn_of e60 ?_, c2, c3⟩
    rw [fnK, n0, s60]
    simp -implicitDefEqProofs only [↓runK_seq, runK_seq, ↓runK_cond, runK_cond, ↓runK_block, runK_block, ↓runK_loop, runK_loop, ↓runK_skip, runK_skip, ↓runK_ret, runK_ret, ↓runK_exit, runK_exit, ↓seqE_n, seqE_n, ↓seqE_e, seqE_e, ↓seqE_r, seqE_r, ↓blkE_n, blkE_n, ↓blkE_e, blkE_e, ↓blkE_r, blkE_r, ↓retK_n, retK_n, ↓retK_r, retK_r, ↓aCall_fn, aCall_fn, ↓bnd_s, bnd_s, ↓bnd2_s, bnd2_s, ↓onB_t, onB_t, ↓onB_f, onB_f, ↓onG_tt, onG_tt, ↓onG_tf, onG_tf, ↓onG_ft, onG_ft, ↓onG_ff, onG_ff, ↓onG_s, onG_s, ↓onT_t, onT_t, ↓aPick_t, aPick_t, ↓aPick_f, aPick_f, decide_true, decide_false, st_tmp, results1, results2, List.lookup_cons, List.lookup_nil, Nat.reduceBEq, Bool.false_eq_true, ↓reduceIte, BEq.rfl, Nat.reduceLT, Option.getD_some, Option.getD_none, ↓r60_0, r60_0, ↓r60_1, r60_1, ↓r60_2, r60_2, ↓r60_3, r60_3, ↓r60_4, r60_4, ↓r60_5, r60_5, bk, ext0, ext1, c1, neq27, c0]
structure Wl where
  d : Dk
  gen : Nat
  pos : Int
  down : Bool
def Dk.wopen (d : Dk) : Int × Wl × List (List UInt8) :=
  let n := d.lasts.length
  let g := newest d.now
  let f := if g = 0 then d.format else (0, d)
  if f.1 ≠ 0 then (f.1, ⟨f.2, 0, 0, false⟩, [])
  else
    let gen := if g = 0 then 1 else g
    let sc := f.2.scan (fromOf n gen : Nat) (toOf n gen : Nat) gen
    let c := f.2.clean sc.2 (toOf n gen : Nat)
    if c.1 ≠ 0 then (c.1, ⟨c.2, 0, 0, false⟩, []) else (0, ⟨c.2, gen, sc.2, false⟩, sc.1)
def lv (p gen : Nat) (pos : Int) (w : Bool) : Obj := .var 104 (.agg 103 [dp p, .int .i64 gen, .int .i64 pos, .bool w])
abbrev lp (q : Nat) : AV := .ref q [] 103
structure Lsk (S : Obs) (h : Heap) (q p r : Nat) (w : Wl) : Prop where
  hq : S q
  var : h[q]? = some (lv p w.gen w.pos w.down)
  dsk : Dsk (fun i => S i ∧ i ≠ q) h p r w.d
theorem bld104 (p gen : Nat) (pos : Int) : aBuild tab 104 [(0, dp p), (1, .int .i64 gen), (2, .int .i64 pos)] = some (.agg 103 [dp p, .int .i64 gen, .int .i64 pos, .bool false]) := by kernel_rfl
theorem box104 (p gen : Nat) (pos : Int) (h : Heap) : aBoxv tab 104 (.agg 103 [dp p, .int .i64 gen, .int .i64 pos, .bool false]) h = some (lp h.length, h ++ [lv p gen pos false]) := by
  simp [aBoxv, fits, lv]
theorem on31 (p : Nat) : ([dp p] ++ List.replicate (51 - [dp p].length) AV.undef) = st 51 [(0, dp p)] := rfl
theorem open_tail {S : Obs} {p r : Nat} {h : Heap} {f : Dk} (D : Dsk S h p r f) (up : Up S h) (hn : 2 ≤ f.lasts.length) (s : Sane f) (gen : Nat) (hg : gen ≤ 2147483647) (k : Nat) (hk : 10400 < k) :
    ∃ x h1 h2, exFn C0 E0 (k + 2) false 61 [dp p, .int .i64 gen] h = some (.tuple [.int .i64 (fromOf f.lasts.length gen : Nat), .int .i64 (toOf f.lasts.length gen : Nat)], h) ∧
      exFn C0 E0 (k + 2) false 15 [dp p, .int .i64 (fromOf f.lasts.length gen : Nat), .int .i64 (toOf f.lasts.length gen : Nat), .int .i64 gen] h = some (.tuple [x, .int .i64 (f.scan (fromOf f.lasts.length gen : Nat) (toOf f.lasts.length gen : Nat) gen).2], h1) ∧
      exFn C0 E0 (k + 2) false 19 [dp p, .int .i64 (f.scan (fromOf f.lasts.length gen : Nat) (toOf f.lasts.length gen : Nat) gen).2, .int .i64 (toOf f.lasts.length gen : Nat)] h1 =
        some (.int .i64 (f.clean (f.scan (fromOf f.lasts.length gen : Nat) (toOf f.lasts.length gen : Nat) gen).2 (toOf f.lasts.length gen : Nat)).1, h2) ∧
      Dsk S h2 p r (f.clean (f.scan (fromOf f.lasts.length gen : Nat) (toOf f.lasts.length gen : Nat) gen).2 (toOf f.lasts.length gen : Nat)).2 ∧ Keep S h h2 ∧
      ApR (From h.length) h2 x (f.scan (fromOf f.lasts.length gen : Nat) (toOf f.lasts.length gen : Nat) gen).1 := by
  have few := s.few
  have bk := bounds_ok D hn gen (by omega) false k
  obtain ⟨x, h1, s1, s2, k1⟩ := scan_ok D (by omega) (fromOf f.lasts.length gen : Nat) (toOf f.lasts.length gen : Nat) gen (k + 1) (by omega)
  generalize f.scan (fromOf f.lasts.length gen : Nat) (toOf f.lasts.length gen : Nat) gen = sc at *
  have hk1 := k1.1
  have D1 : Dsk (fun i => S i ∧ ¬ (h.length ≤ i ∧ i < h1.length)) h1 p r f := (D.cap.fresh k1).mono fun i hi => ⟨hi.1, fun x => by have := hi.2; omega⟩
  have up1 : Up (fun i => S i ∧ ¬ (h.length ≤ i ∧ i < h1.length)) h1 := fun i hi => ⟨up i (by omega), fun x => by omega⟩
  obtain ⟨h2, c1, c2, c3⟩ := clean_ok D1 up1 (by omega) s.fuse sc.2 (toOf f.lasts.length gen : Nat) (k + 1) (by omega)
  refine ⟨x, h1, h2, bk, s1, c1, c2.mono fun i hi => hi.1, (k1.up up).trans (c3.mono fun i hi => hi.1), ?_⟩
  obtain ⟨vs, ha, hf⟩ := s2
  exact ⟨vs, ha.keep c3 fun i hi hs hx => hx.2 ⟨hs, hi⟩, hf⟩
theorem Lsk.new {S : Obs} {h : Heap} {p r gen : Nat} {pos : Int} {d : Dk} (D : Dsk S h p r d) (up : Up S h) : Lsk S (h ++ [lv p gen pos false]) h.length p r ⟨d, gen, pos, false⟩ := by
  refine ⟨up _ (Nat.le_refl _), by simp, ?_⟩
  exact (D.cap.keep (U := From h.length) (Keep.app h _ (Up.fresh h)) fun i hi _ hj => Nat.not_le.2 hi hj).mono fun i hi => ⟨hi.1, by have := hi.2; omega⟩
theorem open_ok {S : Obs} {p r : Nat} {h : Heap} {d : Dk} (D : Dsk S h p r d) (up : Up S h) (hn : 4 ≤ d.lasts.length) (s : Sane d) (k : Nat) (hk : 10410 < k) :
    ∃ h' l x, exFn C0 E0 (k + 1) false 31 [dp p] h = some (.tuple [l, x, .int .i64 d.wopen.1], h') ∧ Keep S h h' ∧ Dsk S h' p r d.wopen.2.1.d ∧
      (d.wopen.1 = 0 → ∃ q, l = lp q ∧ h.length ≤ q ∧ q < h'.length ∧ Lsk S h' q p r d.wopen.2.1 ∧ ApR (fun i => h.length ≤ i ∧ i < h'.length ∧ i ≠ q) h' x d.wopen.2.2) ∧ (d.wopen.1 ≠ 0 → l = .nilp ∧ x = .nils) := by
  obtain ⟨k, rfl⟩ : ∃ j, k = j + 2 := ⟨k - 2, by omega⟩
  have few := s.few
  have hlen := s.len
  have e1 : decide (((d.lasts.length : Nat) : Int) < 4) = false := decide_eq_false (by omega)
  obtain ⟨h1, g1, k1⟩ := newest_ok D (by omega) (by omega) (k + 1) (by omega)
  have hng := newest_lt d.now
  have D1 := D.fresh k1
  have up1 := up.keep k1
  have kk1 := k1.up up
  have hk1 := k1.1
  have z0 : decide ((0 : Int) ≠ 0) = false := by decide
  have apr : ∀ {h2 h4 : Heap} {x : AV} {ls : List (List UInt8)} {o : Obj}, h.length ≤ h2.length → ApR (From h2.length) h4 x ls → ApR (fun i => h.length ≤ i ∧ i < (h4 ++ [o]).length ∧ i ≠ h4.length) (h4 ++ [o]) x ls := by
    intro h2 h4 x ls o hle ⟨vs, ha, hf⟩
    refine ⟨vs, ?_, hf⟩
    rcases ha with a | ⟨kk, hx, a | ⟨r, g, hk, hr, hg⟩⟩
    · exact .inl a
    · exact .inr ⟨kk, hx, .inl a⟩
    · have hlt := (List.getElem?_eq_some_iff.1 hg).1
      have hr' : h2.length ≤ r := hr
      exact .inr ⟨kk, hx, .inr ⟨r, g, hk, ⟨by omega, by simp; omega, by omega⟩, by rw [List.getElem?_append_left hlt]; exact hg⟩⟩
  unfold Dk.wopen
  by_cases q : newest d.now = 0
  case neg =>
    have e2 : decide (((newest d.now : Nat) : Int) = 0) = false := decide_eq_false (by omega)
    simp only [if_neg q, ne_eq, not_true_eq_false, if_false]
    obtain ⟨x, h3, h4, bk, s1, c1, D4, k4, a4⟩ := open_tail D1 up1 (by omega) s (newest d.now) hng k (by omega)
    generalize d.scan (fromOf d.lasts.length (newest d.now) : Nat) (toOf d.lasts.length (newest d.now) : Nat) (newest d.now : Nat) = sc at *
    generalize d.clean sc.2 (toOf d.lasts.length (newest d.now) : Nat) = C at *
    obtain ⟨ce, cd⟩ := C
    simp only at *
    by_cases z : ce = 0
    · subst z
      simp only [not_true_eq_false, if_false]
      refine ⟨h4 ++ [lv p (newest d.now) sc.2 false], lp h4.length, x, exFn_of e31 ?_, (kk1.trans k4).trans (Keep.app h4 _ (up1.keep k4)), D4.fresh (Keep.app h4 _ (Up.fresh h4)),
        fun _ => ⟨h4.length, rfl, by have := k4.1; omega, by simp, Lsk.new D4 (up1.keep k4), apr hk1 a4⟩, fun h => h.elim⟩
      rw [fnK, on31, s31]
      simp -implicitDefEqProofs only [↓runK_seq, runK_seq, ↓runK_cond, runK_cond, ↓runK_block, runK_block, ↓runK_loop, runK_loop, ↓runK_skip, runK_skip, ↓runK_ret, runK_ret, ↓runK_exit, runK_exit, ↓seqE_n, seqE_n, ↓seqE_e, seqE_e, ↓seqE_r, seqE_r, ↓blkE_n, blkE_n, ↓blkE_e, blkE_e, ↓blkE_r, blkE_r, ↓retK_n, retK_n, ↓retK_r, retK_r, ↓aCall_fn, aCall_fn, ↓bnd_s, bnd_s, ↓bnd2_s, bnd2_s, ↓onB_t, onB_t, ↓onB_f, onB_f, ↓onG_tt, onG_tt, ↓onG_tf, onG_tf, ↓onG_ft, onG_ft, ↓onG_ff, onG_ff, ↓onG_s, onG_s, ↓onT_t, onT_t, ↓aPick_t, aPick_t, ↓aPick_f, aPick_f, decide_true, decide_false, st_tmp, results1, results2, List.lookup_cons, List.lookup_nil, Nat.reduceBEq, Bool.false_eq_true, ↓reduceIte, BEq.rfl, Nat.reduceLT, Option.getD_some, Option.getD_none, ↓r31_0, r31_0, ↓r31_1, r31_1, ↓r31_2, r31_2, ↓r31_3, r31_3, ↓r31_4, r31_4, ↓r31_5, r31_5, ↓r31_6, r31_6, ↓r31_7, r31_7, ↓r31_8, r31_8, ↓r31_9a, r31_9a, ↓r31_9b, r31_9b, ↓r31_10, r31_10, ↓r31_11, r31_11, ↓r31_12, r31_12, ↓r31_13, r31_13, ↓r31_14, r31_14, len_ok D, bin_lss, e1, g1, bin_eql, e2, bk, ext0, ext1, s1, c1, neq27, z0, bld104, box104, results, List.map_cons, List.map_nil, st_getD]
    · simp only [z, not_false_eq_true, if_true]
      refine ⟨h4, .nilp, .nils, exFn_of e31 ?_, kk1.trans k4, D4, fun h => h.elim, fun _ => ⟨rfl, rfl⟩⟩
      have z1 : decide (ce ≠ 0) = true := decide_eq_true z
      rw [fnK, on31, s31]
      simp -implicitDefEqProofs only [↓runK_seq, runK_seq, ↓runK_cond, runK_cond, ↓runK_block, runK_block, ↓runK_loop, runK_loop, ↓runK_skip, runK_skip, ↓runK_ret, runK_ret, ↓runK_exit, runK_exit, ↓seqE_n, seqE_n, ↓seqE_e, seqE_e, ↓seqE_r, seqE_r, ↓blkE_n, blkE_n, ↓blkE_e, blkE_e, ↓blkE_r, blkE_r, ↓retK_n, retK_n, ↓retK_r, retK_r, ↓aCall_fn, aCall_fn, ↓bnd_s, bnd_s, ↓bnd2_s, bnd2_s, ↓onB_t, onB_t, ↓onB_f, onB_f, ↓onG_tt, onG_tt, ↓onG_tf, onG_tf, ↓onG_ft, onG_ft, ↓onG_ff, onG_ff, ↓onG_s, onG_s, ↓onT_t, onT_t, ↓aPick_t, aPick_t, ↓aPick_f, aPick_f, decide_true, decide_false, st_tmp, results1, results2, List.lookup_cons, List.lookup_nil, Nat.reduceBEq, Bool.false_eq_true, ↓reduceIte, BEq.rfl, Nat.reduceLT, Option.getD_some, Option.getD_none, ↓r31_0, r31_0, ↓r31_1, r31_1, ↓r31_2, r31_2, ↓r31_3, r31_3, ↓r31_4, r31_4, ↓r31_5, r31_5, ↓r31_6, r31_6, ↓r31_7, r31_7, ↓r31_8, r31_8, ↓r31_9a, r31_9a, ↓r31_9b, r31_9b, ↓r31_10, r31_10, ↓r31_11, r31_11, ↓r31_12, r31_12, ↓r31_13, r31_13, ↓r31_14, r31_14, len_ok D, bin_lss, e1, g1, bin_eql, e2, bk, ext0, ext1, s1, c1, neq27, z1, results, List.map_cons, List.map_nil, st_getD]
  · have e2 : decide (((newest d.now : Nat) : Int) = 0) = true := decide_eq_true (by omega)
    simp only [if_pos q]
    obtain ⟨h2, f1, D2, k2⟩ := format_ok D1 up1 (by omega) s (k + 1) (by omega)
    obtain ⟨s2, sl2, -, -⟩ := format_st s (by omega)
    generalize d.format = F at *
    obtain ⟨fe, fd⟩ := F
    simp only at *
    have up2 := up1.keep k2
    by_cases y : fe = 0
    case neg =>
      simp only [y, ne_eq, not_false_eq_true, if_true]
      refine ⟨h2, .nilp, .nils, exFn_of e31 ?_, kk1.trans k2, D2, fun h => h.elim, fun _ => ⟨rfl, rfl⟩⟩
      have z1 : decide (fe ≠ 0) = true := decide_eq_true y
      rw [fnK, on31, s31]
      simp -implicitDefEqProofs only [↓runK_seq, runK_seq, ↓runK_cond, runK_cond, ↓runK_block, runK_block, ↓runK_loop, runK_loop, ↓runK_skip, runK_skip, ↓runK_ret, runK_ret, ↓runK_exit, runK_exit, ↓seqE_n, seqE_n, ↓seqE_e, seqE_e, ↓seqE_r, seqE_r, ↓blkE_n, blkE_n, ↓blkE_e, blkE_e, ↓blkE_r, blkE_r, ↓retK_n, retK_n, ↓retK_r, retK_r, ↓aCall_fn, aCall_fn, ↓bnd_s, bnd_s, ↓bnd2_s, bnd2_s, ↓onB_t, onB_t, ↓onB_f, onB_f, ↓onG_tt, onG_tt, ↓onG_tf, onG_tf, ↓onG_ft, onG_ft, ↓onG_ff, onG_ff, ↓onG_s, onG_s, ↓onT_t, onT_t, ↓aPick_t, aPick_t, ↓aPick_f, aPick_f, decide_true, decide_false, st_tmp, results1, results2, List.lookup_cons, List.lookup_nil, Nat.reduceBEq, Bool.false_eq_true, ↓reduceIte, BEq.rfl, Nat.reduceLT, Option.getD_some, Option.getD_none, ↓r31_0, r31_0, ↓r31_1, r31_1, ↓r31_2, r31_2, ↓r31_3, r31_3, ↓r31_4, r31_4, ↓r31_5, r31_5, ↓r31_6, r31_6, ↓r31_7, r31_7, ↓r31_8, r31_8, ↓r31_9a, r31_9a, ↓r31_9b, r31_9b, ↓r31_10, r31_10, ↓r31_11, r31_11, ↓r31_12, r31_12, ↓r31_13, r31_13, ↓r31_14, r31_14, len_ok D, bin_lss, e1, g1, bin_eql, e2, f1, neq27, z1, results, List.map_cons, List.map_nil, st_getD]
    subst y
    simp only [ne_eq, not_true_eq_false, if_false]
    obtain ⟨x, h3, h4, bk, s1, c1, D4, k4, a4⟩ := open_tail D2 up2 (by omega) s2 1 (by omega) k (by omega)
    rw [sl2] at bk s1 c1 D4 a4
    rw [show ((1 : Nat) : Int) = 1 from rfl] at bk s1 c1 D4 a4 ⊢
    generalize fd.scan (fromOf d.lasts.length 1 : Nat) (toOf d.lasts.length 1 : Nat) 1 = sc at *
    generalize fd.clean sc.2 (toOf d.lasts.length 1 : Nat) = C at *
    obtain ⟨ce, cd⟩ := C
    simp only at *
    have k24 := k2.trans k4
    by_cases z : ce = 0
    · subst z
      simp only [not_true_eq_false, if_false]
      refine ⟨h4 ++ [lv p 1 sc.2 false], lp h4.length, x, exFn_of e31 ?_, (kk1.trans k24).trans (Keep.app h4 _ (up1.keep k24)), D4.fresh (Keep.app h4 _ (Up.fresh h4)),
        fun _ => ⟨h4.length, rfl, by have := k24.1; omega, by simp, Lsk.new D4 (up1.keep k24), apr (by have := k2.1; omega) a4⟩, fun h => h.elim⟩
      have bl := bld104 p 1 sc.2
      rw [show ((1 : Nat) : Int) = 1 from rfl] at bl
      have bx := box104 p 1 sc.2 h4
      rw [show ((1 : Nat) : Int) = 1 from rfl] at bx
      rw [fnK, on31, s31]
      simp -implicitDefEqProofs only [↓runK_seq, runK_seq, ↓runK_cond, runK_cond, ↓runK_block, runK_block, ↓runK_loop, runK_loop, ↓runK_skip, runK_skip, ↓runK_ret, runK_ret, ↓runK_exit, runK_exit, ↓seqE_n, seqE_n, ↓seqE_e, seqE_e, ↓seqE_r, seqE_r, ↓blkE_n, blkE_n, ↓blkE_e, blkE_e, ↓blkE_r, blkE_r, ↓retK_n, retK_n, ↓retK_r, retK_r, ↓aCall_fn, aCall_fn, ↓bnd_s, bnd_s, ↓bnd2_s, bnd2_s, ↓onB_t, onB_t, ↓onB_f, onB_f, ↓onG_tt, onG_tt, ↓onG_tf, onG_tf, ↓onG_ft, onG_ft, ↓onG_ff, onG_ff, ↓onG_s, onG_s, ↓onT_t, onT_t, ↓aPick_t, aPick_t, ↓aPick_f, aPick_f, decide_true, decide_false, st_tmp, results1, results2, List.lookup_cons, List.lookup_nil, Nat.reduceBEq, Bool.false_eq_true, ↓reduceIte, BEq.rfl, Nat.reduceLT, Option.getD_some, Option.getD_none, ↓r31_0, r31_0, ↓r31_1, r31_1, ↓r31_2, r31_2, ↓r31_3, r31_3, ↓r31_4, r31_4, ↓r31_5, r31_5, ↓r31_6, r31_6, ↓r31_7, r31_7, ↓r31_8, r31_8, ↓r31_9a, r31_9a, ↓r31_9b, r31_9b, ↓r31_10, r31_10, ↓r31_11, r31_11, ↓r31_12, r31_12, ↓r31_13, r31_13, ↓r31_14, r31_14, len_ok D, bin_lss, e1, g1, bin_eql, e2, f1, bk, ext0, ext1, s1, c1, neq27, z0, bl, bx, results, List.map_cons, List.map_nil, st_getD]
    · simp only [z, not_false_eq_true, if_true]
      refine ⟨h4, .nilp, .nils, exFn_of e31 ?_, kk1.trans k24, D4, fun h => h.elim, fun _ => ⟨rfl, rfl⟩⟩
      have z1 : decide (ce ≠ 0) = true := decide_eq_true z
      rw [fnK, on31, s31]
      simp -implicitDefEqProofs only [↓runK_seq, runK_seq, ↓runK_cond, runK_cond, ↓runK_block, runK_block, ↓runK_loop, runK_loop, ↓runK_skip, runK_skip, ↓runK_ret, runK_ret, ↓runK_exit, runK_exit, ↓seqE_n, seqE_n, ↓seqE_e, seqE_e, ↓seqE_r, seqE_r, ↓blkE_n, blkE_n, ↓blkE_e, blkE_e, ↓blkE_r, blkE_r, ↓retK_n, retK_n, ↓retK_r, retK_r, ↓aCall_fn, aCall_fn, ↓bnd_s, bnd_s, ↓bnd2_s, bnd2_s, ↓onB_t, onB_t, ↓onB_f, onB_f, ↓onG_tt, onG_tt, ↓onG_tf, onG_tf, ↓onG_ft, onG_ft, ↓onG_ff, onG_ff, ↓onG_s, onG_s, ↓onT_t, onT_t, ↓aPick_t, aPick_t, ↓aPick_f, aPick_f, decide_true, decide_false, st_tmp, results1, results2, List.lookup_cons, List.lookup_nil, Nat.reduceBEq, Bool.false_eq_true, ↓reduceIte, BEq.rfl, Nat.reduceLT, Option.getD_some, Option.getD_none, ↓r31_0, r31_0, ↓r31_1, r31_1, ↓r31_2, r31_2, ↓r31_3, r31_3, ↓r31_4, r31_4, ↓r31_5, r31_5, ↓r31_6, r31_6, ↓r31_7, r31_7, ↓r31_8, r31_8, ↓r31_9a, r31_9a, ↓r31_9b, r31_9b, ↓r31_10, r31_10, ↓r31_11, r31_11, ↓r31_12, r31_12, ↓r31_13, r31_13, ↓r31_14, r31_14, len_ok D, bin_lss, e1, g1, bin_eql, e2, f1, bk, ext0, ext1, s1, c1, neq27, z0, z1, results, List.map_cons, List.map_nil, st_getD]
end Go.Ax

set_option linter.unusedVariables false
namespace Go.Ax
open Go Go.Proofs
noncomputable def O33 (i : Nat) : Array Oper := opsOf i (bodyOf Try.f33)
theorem s33 : bodyOf Try.f33 = (.seq (.region 0 (O33 0) false) (.seq (.seq (.region 1 (O33 1) false) (.seq (.region 2 (O33 2) false) (.cond (Go.Operand.tmp 13) (.seq (.region 3 (O33 3) false) .ret) .skip))) (.seq (.region 4 (O33 4) true) (.seq (.region 5 (O33 5) true) (.seq (.seq (.region 6 (O33 6) false) (.cond (Go.Operand.tmp 46) (.region 7 (O33 7) false) .skip)) (.seq (.region 8 (O33 8) false) .ret)))))) := by kernel_rfl
theorem e33 : E0 33 = some ⟨54, [4], bodyOf Try.f33⟩ := by kernel_rfl
theorem r33_0 {β : Type} (call : CallF) (md : Bool) (n : Nat) (k : Ex → List AV → Heap → Option β) (x0 x1 : AV) (h : Heap) :
    runK C0 call md 33 n (.region 0 (O33 0) false) k (st 54 [(0, x0), (1, x1)]) h =
    k .normal (st 54 [(0, x0), (1, x1)]) h
  := by kernel_rfl
theorem r33_1 {β : Type} (call : CallF) (md : Bool) (n : Nat) (k : Ex → List AV → Heap → Option β) (x0 x1 : AV) (h : Heap) :
    runK C0 call md 33 n (.region 1 (O33 1) false) k (st 54 [(0, x0), (1, x1)]) h =
    bnd2 (aCall call md (.fn (.func 64) []) [x0] h) fun v1 h2 =>
    k .normal (st 54 [(0, x0), (1, x1), (5, v1)]) h2
  := by kernel_rfl
theorem r33_2 {β : Type} (call : CallF) (md : Bool) (n : Nat) (k : Ex → List AV → Heap → Option β) (x0 x1 x5 : AV) (h : Heap) :
    runK C0 call md 33 n (.region 2 (O33 2) false) k (st 54 [(0, x0), (1, x1), (5, x5)]) h =
    bnd (aBinC tab .neq 27 x5 (.int .i64 0) true) fun v1 =>
    k .normal (st 54 [(0, x0), (1, x1), (5, x5), (13, v1)]) h
  := by kernel_rfl
theorem r33_3 {β : Type} (call : CallF) (md : Bool) (n : Nat) (k : Ex → List AV → Heap → Option β) (x0 x1 x5 x13 : AV) (h : Heap) :
    runK C0 call md 33 n (.region 3 (O33 3) false) k (st 54 [(0, x0), (1, x1), (5, x5), (13, x13)]) h =
    k .normal (st 54 [(4, x5)]) h
  := by kernel_rfl
theorem r33_4 {β : Type} (call : CallF) (md : Bool) (n : Nat) (k : Ex → List AV → Heap → Option β) (x0 x1 x5 x13 : AV) (h : Heap) :
    runK C0 call md 33 n (.region 4 (O33 4) true) k (st 54 [(0, x0), (1, x1), (5, x5), (13, x13)]) h =
    bnd (aNil x0) fun v1 =>
    bnd (aFieldAddr tab 104 v1 0) fun v2 =>
    bnd (aLoad tab 25 v2 h) fun v3 =>
    bnd (aNil x0) fun v4 =>
    bnd (aFieldAddr tab 104 v4 1) fun v5 =>
    bnd (aLoad tab 3 v5 h) fun v6 =>
    bnd2 (aCall call md (.fn (.func 61) []) [v3, v6] h) fun v7 h8 =>
    bnd (aExtract v7 0) fun v9 =>
    bnd (aExtract v7 1) fun v10 =>
    k .normal (st 54 [(0, x0), (1, x1), (7, v10)]) h8
  := by kernel_rfl
theorem r33_5 {β : Type} (call : CallF) (md : Bool) (n : Nat) (k : Ex → List AV → Heap → Option β) (x0 x1 x7 : AV) (h : Heap) :
    runK C0 call md 33 n (.region 5 (O33 5) true) k (st 54 [(0, x0), (1, x1), (7, x7)]) h =
    bnd (aNil x0) fun v1 =>
    bnd (aFieldAddr tab 104 v1 0) fun v2 =>
    bnd (aLoad tab 25 v2 h) fun v3 =>
    bnd (aNil x0) fun v4 =>
    bnd (aFieldAddr tab 104 v4 2) fun v5 =>
    bnd (aLoad tab 3 v5 h) fun v6 =>
    bnd (aNil x0) fun v7 =>
    bnd (aFieldAddr tab 104 v7 1) fun v8 =>
    bnd (aLoad tab 3 v8 h) fun v9 =>
    bnd2 (aCall call md (.fn (.func 14) []) [v3, v6, x7, v9, x1] h) fun v10 h11 =>
    bnd (aExtract v10 0) fun v12 =>
    bnd (aExtract v10 1) fun v13 =>
    k .normal (st 54 [(0, x0), (8, v12), (9, v13)]) h11
  := by kernel_rfl
theorem r33_6 {β : Type} (call : CallF) (md : Bool) (n : Nat) (k : Ex → List AV → Heap → Option β) (x0 x8 x9 : AV) (h : Heap) :
    runK C0 call md 33 n (.region 6 (O33 6) false) k (st 54 [(0, x0), (8, x8), (9, x9)]) h =
    bnd (aBinC tab .eql 27 x9 (.int .i64 0) true) fun v1 =>
    k .normal (st 54 [(0, x0), (8, x8), (9, x9), (46, v1)]) h
  := by kernel_rfl
theorem r33_7 {β : Type} (call : CallF) (md : Bool) (n : Nat) (k : Ex → List AV → Heap → Option β) (x0 x8 x9 x46 : AV) (h : Heap) :
    runK C0 call md 33 n (.region 7 (O33 7) false) k (st 54 [(0, x0), (8, x8), (9, x9), (46, x46)]) h =
    bnd (aNil x0) fun v1 =>
    bnd (aFieldAddr tab 104 v1 2) fun v2 =>
    bnd (aStore tab 3 v2 x8 h) fun h3 =>
    k .normal (st 54 [(0, x0), (9, x9)]) h3
  := by kernel_rfl
theorem r33_8a {β : Type} (call : CallF) (md : Bool) (n : Nat) (k : Ex → List AV → Heap → Option β) (x0 x8 x9 x46 : AV) (h : Heap) :
    runK C0 call md 33 n (.region 8 (O33 8) false) k (st 54 [(0, x0), (8, x8), (9, x9), (46, x46)]) h =
    bnd2 (aCall call md (.fn (.func 65) []) [x0, x9] h) fun v1 h2 =>
    k .normal (st 54 [(4, v1)]) h2
  := by kernel_rfl
theorem r33_8b {β : Type} (call : CallF) (md : Bool) (n : Nat) (k : Ex → List AV → Heap → Option β) (x0 x9 : AV) (h : Heap) :
    runK C0 call md 33 n (.region 8 (O33 8) false) k (st 54 [(0, x0), (9, x9)]) h =
    bnd2 (aCall call md (.fn (.func 65) []) [x0, x9] h) fun v1 h2 =>
    k .normal (st 54 [(4, v1)]) h2
  := by kernel_rfl
end Go.Ax

set_option linter.unusedVariables false
namespace Go.Ax
open Go Go.Proofs
noncomputable def O34 (i : Nat) : Array Oper := opsOf i (bodyOf Try.f34)
theorem s34 : bodyOf Try.f34 = (.seq (.region 0 (O34 0) false) (.seq (.seq (.region 1 (O34 1) false) (.cond (Go.Operand.tmp 6) (.seq (.region 2 (O34 2) false) .ret) .skip)) (.seq (.region 3 (O34 3) true) (.seq (.region 4 (O34 4) false) .ret)))) := by kernel_rfl
theorem e34 : E0 34 = some ⟨25, [2], bodyOf Try.f34⟩ := by kernel_rfl
theorem r34_0 {β : Type} (call : CallF) (md : Bool) (n : Nat) (k : Ex → List AV → Heap → Option β) (x0 : AV) (h : Heap) :
    runK C0 call md 34 n (.region 0 (O34 0) false) k (st 25 [(0, x0)]) h =
    k .normal (st 25 [(0, x0)]) h
  := by kernel_rfl
theorem r34_1 {β : Type} (call : CallF) (md : Bool) (n : Nat) (k : Ex → List AV → Heap → Option β) (x0 : AV) (h : Heap) :
    runK C0 call md 34 n (.region 1 (O34 1) false) k (st 25 [(0, x0)]) h =
    bnd (aBinC tab .eql 57 x0 .nilp true) fun v1 =>
    k .normal (st 25 [(0, x0), (6, v1)]) h
  := by kernel_rfl
theorem r34_2 {β : Type} (call : CallF) (md : Bool) (n : Nat) (k : Ex → List AV → Heap → Option β) (x0 x6 : AV) (h : Heap) :
    runK C0 call md 34 n (.region 2 (O34 2) false) k (st 25 [(0, x0), (6, x6)]) h =
    k .normal (st 25 [(2, (.int .i64 0))]) h
  := by kernel_rfl
theorem r34_3 {β : Type} (call : CallF) (md : Bool) (n : Nat) (k : Ex → List AV → Heap → Option β) (x0 x6 : AV) (h : Heap) :
    runK C0 call md 34 n (.region 3 (O34 3) true) k (st 25 [(0, x0), (6, x6)]) h =
    bnd (aNil x0) fun v1 =>
    bnd (aFieldAddr tab 104 v1 0) fun v2 =>
    bnd (aLoad tab 25 v2 h) fun v3 =>
    bnd (aNil x0) fun v4 =>
    bnd (aFieldAddr tab 104 v4 1) fun v5 =>
    bnd (aLoad tab 3 v5 h) fun v6 =>
    bnd2 (aCall call md (.fn (.func 61) []) [v3, v6] h) fun v7 h8 =>
    bnd (aExtract v7 0) fun v9 =>
    bnd (aExtract v7 1) fun v10 =>
    k .normal (st 25 [(0, x0), (3, v9)]) h8
  := by kernel_rfl
theorem r34_4 {β : Type} (call : CallF) (md : Bool) (n : Nat) (k : Ex → List AV → Heap → Option β) (x0 x3 : AV) (h : Heap) :
    runK C0 call md 34 n (.region 4 (O34 4) false) k (st 25 [(0, x0), (3, x3)]) h =
    bnd (aNil x0) fun v1 =>
    bnd (aFieldAddr tab 104 v1 2) fun v2 =>
    bnd (aLoad tab 3 v2 h) fun v3 =>
    bnd (aBinC tab .sub 3 v3 x3 false) fun v4 =>
    k .normal (st 25 [(2, v4)]) h
  := by kernel_rfl
end Go.Ax

set_option linter.unusedVariables false
namespace Go.Ax
open Go Go.Proofs
noncomputable def O35 (i : Nat) : Array Oper := opsOf i (bodyOf Try.f35)
theorem s35 : bodyOf Try.f35 = (.seq (.region 0 (O35 0) false) (.seq (.seq (.region 1 (O35 1) false) (.seq (.region 2 (O35 2) false) (.cond (Go.Operand.tmp 14) (.seq (.region 3 (O35 3) false) .ret) .skip))) (.seq (.region 4 (O35 4) false) (.seq (.region 5 (O35 5) false) (.seq (.block 0 (.seq (.region 6 (O35 6) false) (.cond (Go.Operand.tmp 30) (.seq (.region 7 (O35 7) false) .ret) (.seq (.region 8 (O35 8) false) (.cond (Go.Operand.tmp 34) (.seq (.region 9 (O35 9) false) .ret) .skip))))) (.seq (.region 10 (O35 10) false) (.seq (.seq (.region 11 (O35 11) false) (.cond (Go.Operand.tmp 54) (.seq (.region 12 (O35 12) false) .ret) .skip)) (.seq (.region 13 (O35 13) false) (.seq (.seq (.region 14 (O35 14) false) (.cond (Go.Operand.tmp 71) (.seq (.region 15 (O35 15) false) .ret) .skip)) (.seq (.seq (.region 16 (O35 16) false) (.seq (.region 17 (O35 17) false) (.cond (Go.Operand.tmp 82) (.region 18 (O35 18) false) .skip))) (.seq (.region 19 (O35 19) false) .ret))))))))))) := by kernel_rfl
theorem e35 : E0 35 = some ⟨94, [4], bodyOf Try.f35⟩ := by kernel_rfl
theorem r35_0 {β : Type} (call : CallF) (md : Bool) (n : Nat) (k : Ex → List AV → Heap → Option β) (x0 x1 : AV) (h : Heap) :
    runK C0 call md 35 n (.region 0 (O35 0) false) k (st 94 [(0, x0), (1, x1)]) h =
    k .normal (st 94 [(0, x0), (1, x1)]) h
  := by kernel_rfl
theorem r35_1 {β : Type} (call : CallF) (md : Bool) (n : Nat) (k : Ex → List AV → Heap → Option β) (x0 x1 : AV) (h : Heap) :
    runK C0 call md 35 n (.region 1 (O35 1) false) k (st 94 [(0, x0), (1, x1)]) h =
    bnd2 (aCall call md (.fn (.func 64) []) [x0] h) fun v1 h2 =>
    k .normal (st 94 [(0, x0), (1, x1), (5, v1)]) h2
  := by kernel_rfl
theorem r35_2 {β : Type} (call : CallF) (md : Bool) (n : Nat) (k : Ex → List AV → Heap → Option β) (x0 x1 x5 : AV) (h : Heap) :
    runK C0 call md 35 n (.region 2 (O35 2) false) k (st 94 [(0, x0), (1, x1), (5, x5)]) h =
    bnd (aBinC tab .neq 27 x5 (.int .i64 0) true) fun v1 =>
    k .normal (st 94 [(0, x0), (1, x1), (5, x5), (14, v1)]) h
  := by kernel_rfl
theorem r35_3 {β : Type} (call : CallF) (md : Bool) (n : Nat) (k : Ex → List AV → Heap → Option β) (x0 x1 x5 x14 : AV) (h : Heap) :
    runK C0 call md 35 n (.region 3 (O35 3) false) k (st 94 [(0, x0), (1, x1), (5, x5), (14, x14)]) h =
    k .normal (st 94 [(4, x5)]) h
  := by kernel_rfl
theorem r35_4 {β : Type} (call : CallF) (md : Bool) (n : Nat) (k : Ex → List AV → Heap → Option β) (x0 x1 x5 x14 : AV) (h : Heap) :
    runK C0 call md 35 n (.region 4 (O35 4) false) k (st 94 [(0, x0), (1, x1), (5, x5), (14, x14)]) h =
    bnd (aNil x0) fun v1 =>
    bnd (aFieldAddr tab 104 v1 1) fun v2 =>
    bnd (aLoad tab 3 v2 h) fun v3 =>
    bnd (aBinC tab .add 3 v3 (.int .i64 1) true) fun v4 =>
    k .normal (st 94 [(0, x0), (1, x1), (6, v4)]) h
  := by kernel_rfl
theorem r35_5 {β : Type} (call : CallF) (md : Bool) (n : Nat) (k : Ex → List AV → Heap → Option β) (x0 x1 x6 : AV) (h : Heap) :
    runK C0 call md 35 n (.region 5 (O35 5) false) k (st 94 [(0, x0), (1, x1), (6, x6)]) h =
    bnd (aNil x0) fun v1 =>
    bnd (aFieldAddr tab 104 v1 0) fun v2 =>
    bnd (aLoad tab 25 v2 h) fun v3 =>
    bnd2 (aCall call md (.fn (.func 61) []) [v3, x6] h) fun v4 h5 =>
    bnd (aExtract v4 0) fun v6 =>
    bnd (aExtract v4 1) fun v7 =>
    k .normal (st 94 [(0, x0), (1, x1), (6, x6), (7, v6), (8, v7)]) h5
  := by kernel_rfl
theorem r35_6 {β : Type} (call : CallF) (md : Bool) (n : Nat) (k : Ex → List AV → Heap → Option β) (x0 x1 x6 x7 x8 : AV) (h : Heap) :
    runK C0 call md 35 n (.region 6 (O35 6) false) k (st 94 [(0, x0), (1, x1), (6, x6), (7, x7), (8, x8)]) h =
    bnd (aLen tab 22 x1) fun v1 =>
    bnd (aBinC tab .gtr 3 v1 (.int .i64 8192) true) fun v2 =>
    k .normal (st 94 [(0, x0), (1, x1), (6, x6), (7, x7), (8, x8), (30, v2)]) h
  := by kernel_rfl
theorem r35_7 {β : Type} (call : CallF) (md : Bool) (n : Nat) (k : Ex → List AV → Heap → Option β) (x0 x1 x6 x7 x8 x30 : AV) (h : Heap) :
    runK C0 call md 35 n (.region 7 (O35 7) false) k (st 94 [(0, x0), (1, x1), (6, x6), (7, x7), (8, x8), (30, x30)]) h =
    k .normal (st 94 [(4, (.int .i64 1))]) h
  := by kernel_rfl
def J35_8_2 {β : Type} (call : CallF) (md : Bool) (k : Ex → List AV → Heap → Option β) (x0 x1 x6 x7 x8 x37 x44 : AV) (h : Heap) : Option β :=
    bnd (aPick x37 (.bool true) x44) fun v1 =>
    k .normal (st 94 [(0, x0), (1, x1), (6, x6), (7, x7), (8, x8), (34, v1)]) h
theorem j35_8_2 {β : Type} (call : CallF) (md : Bool) (k : Ex → List AV → Heap → Option β) (x0 x1 x6 x7 x8 x30 x35 x36 x37 x38 x39 x40 x41 x42 x43 x44 : AV) (h : Heap) :
    opsK C0 call md 35 (O35 8) ((O35 8).toList.drop 10) (st 94 [(0, x0), (1, x1), (6, x6), (7, x7), (8, x8), (30, x30), (35, x35), (36, x36), (37, x37), (38, x38), (39, x39), (40, x40), (41, x41), (42, x42), (43, x43), (44, x44)]) h (fun tm h => k .normal (clr (C0.keep 35 8) tm) h) = J35_8_2 call md k x0 x1 x6 x7 x8 x37 x44 h := by kernel_rfl
def J35_8_1 {β : Type} (call : CallF) (md : Bool) (k : Ex → List AV → Heap → Option β) (x0 x1 x6 x7 x8 x37 : AV) (h : Heap) : Option β :=
    onG false x37 (
      bnd (aLen tab 22 x1) fun v3 =>
      bnd2 (aCall call md (.fn (.func 45) []) [v3] h) fun v4 h5 =>
      bnd (aBinC tab .sub 3 x8 x7 false) fun v6 =>
      bnd (aBinC tab .gtr 3 v4 v6 false) fun v7 =>
      J35_8_2 call md k x0 x1 x6 x7 x8 x37 v7 h5) (
      J35_8_2 call md k x0 x1 x6 x7 x8 x37 .skip h)
theorem g35_8_1 {β : Type} (call : CallF) (md : Bool) (kk : List AV → Heap → Option β) (x0 x1 x6 x7 x8 x30 x35 x36 x37 : AV) (h : Heap) :
    opsK C0 call md 35 (O35 8) (((O35 8).toList.drop 3).take 7) (st 94 [(0, x0), (1, x1), (6, x6), (7, x7), (8, x8), (30, x30), (35, x35), (36, x36), (37, x37)]) h kk =
    onG false x37 (
      bnd (aLen tab 22 x1) fun v8 =>
      bnd2 (aCall call md (.fn (.func 45) []) [v8] h) fun v9 h10 =>
      bnd (aBinC tab .sub 3 x8 x7 false) fun v11 =>
      bnd (aBinC tab .gtr 3 v9 v11 false) fun v12 =>
      kk (st 94 [(0, x0), (1, x1), (6, x6), (7, x7), (8, x8), (30, x30), (35, x35), (36, x36), (37, x37), (38, x1), (39, v8), (40, v9), (41, x8), (42, x7), (43, v11), (44, v12)]) h10) (
      kk (st 94 [(0, x0), (1, x1), (6, x6), (7, x7), (8, x8), (30, x30), (35, x35), (36, x36), (37, x37), (38, .skip), (39, .skip), (40, .skip), (41, .skip), (42, .skip), (43, .skip), (44, .skip)]) h)
  := by cases x37 with | bool b => (cases b <;> kernel_rfl) | _ => kernel_rfl
theorem j35_8_1 {β : Type} (call : CallF) (md : Bool) (k : Ex → List AV → Heap → Option β) (x0 x1 x6 x7 x8 x30 x35 x36 x37 : AV) (h : Heap) :
    opsK C0 call md 35 (O35 8) ((O35 8).toList.drop 3) (st 94 [(0, x0), (1, x1), (6, x6), (7, x7), (8, x8), (30, x30), (35, x35), (36, x36), (37, x37)]) h (fun tm h => k .normal (clr (C0.keep 35 8) tm) h) = J35_8_1 call md k x0 x1 x6 x7 x8 x37 h := by
  have e : ((O35 8).toList.drop 3) = ((O35 8).toList.drop 3).take 7 ++ (O35 8).toList.drop 10 := by kernel_rfl
  rw [show opsK C0 call md 35 (O35 8) ((O35 8).toList.drop 3) = opsK C0 call md 35 (O35 8) (((O35 8).toList.drop 3).take 7 ++ (O35 8).toList.drop 10) from congrArg _ e]
  rw [opsK_append, g35_8_1]
  simp only [j35_8_2]
  rfl
def J35_8_0 {β : Type} (call : CallF) (md : Bool) (k : Ex → List AV → Heap → Option β) (x0 x1 x6 x7 x8 : AV) (h : Heap) : Option β :=
    bnd (aBinC tab .gtr 3 x6 (.int .i64 2147483647) true) fun v13 =>
    J35_8_1 call md k x0 x1 x6 x7 x8 v13 h
theorem g35_8_0 {β : Type} (call : CallF) (md : Bool) (kk : List AV → Heap → Option β) (x0 x1 x6 x7 x8 x30 : AV) (h : Heap) :
    opsK C0 call md 35 (O35 8) ((O35 8).toList.take 3) (st 94 [(0, x0), (1, x1), (6, x6), (7, x7), (8, x8), (30, x30)]) h kk =
    bnd (aBinC tab .gtr 3 x6 (.int .i64 2147483647) true) fun v14 =>
    kk (st 94 [(0, x0), (1, x1), (6, x6), (7, x7), (8, x8), (30, x30), (35, x6), (36, v14), (37, v14)]) h
  := by kernel_rfl
theorem j35_8_0 {β : Type} (call : CallF) (md : Bool) (k : Ex → List AV → Heap → Option β) (x0 x1 x6 x7 x8 x30 : AV) (h : Heap) :
    opsK C0 call md 35 (O35 8) (O35 8).toList (st 94 [(0, x0), (1, x1), (6, x6), (7, x7), (8, x8), (30, x30)]) h (fun tm h => k .normal (clr (C0.keep 35 8) tm) h) = J35_8_0 call md k x0 x1 x6 x7 x8 h := by
  have e : (O35 8).toList = (O35 8).toList.take 3 ++ (O35 8).toList.drop 3 := by kernel_rfl
  rw [show opsK C0 call md 35 (O35 8) (O35 8).toList = opsK C0 call md 35 (O35 8) ((O35 8).toList.take 3 ++ (O35 8).toList.drop 3) from congrArg _ e]
  rw [opsK_append, g35_8_0]
  simp only [j35_8_1]
  rfl
theorem r35_8 {β : Type} (call : CallF) (md : Bool) (n : Nat) (k : Ex → List AV → Heap → Option β) (x0 x1 x6 x7 x8 x30 : AV) (h : Heap) :
    runK C0 call md 35 n (.region 8 (O35 8) false) k (st 94 [(0, x0), (1, x1), (6, x6), (7, x7), (8, x8), (30, x30)]) h = J35_8_0 call md k x0 x1 x6 x7 x8 h := (runK_region C0 call md 35 n 8 (O35 8) k (st 94 [(0, x0), (1, x1), (6, x6), (7, x7), (8, x8), (30, x30)]) h).trans (j35_8_0 call md k x0 x1 x6 x7 x8 x30 h)
theorem r35_9 {β : Type} (call : CallF) (md : Bool) (n : Nat) (k : Ex → List AV → Heap → Option β) (x0 x1 x6 x7 x8 x34 : AV) (h : Heap) :
    runK C0 call md 35 n (.region 9 (O35 9) false) k (st 94 [(0, x0), (1, x1), (6, x6), (7, x7), (8, x8), (34, x34)]) h =
    k .normal (st 94 [(4, (.int .i64 3))]) h
  := by kernel_rfl
theorem r35_10 {β : Type} (call : CallF) (md : Bool) (n : Nat) (k : Ex → List AV → Heap → Option β) (x0 x1 x6 x7 x8 x34 : AV) (h : Heap) :
    runK C0 call md 35 n (.region 10 (O35 10) false) k (st 94 [(0, x0), (1, x1), (6, x6), (7, x7), (8, x8), (34, x34)]) h =
    bnd (aNil x0) fun v1 =>
    bnd (aFieldAddr tab 104 v1 0) fun v2 =>
    bnd (aLoad tab 25 v2 h) fun v3 =>
    bnd2 (aCall call md (.fn (.func 19) []) [v3, x7, x8] h) fun v4 h5 =>
    k .normal (st 94 [(0, x0), (1, x1), (6, x6), (7, x7), (8, x8), (9, v4)]) h5
  := by kernel_rfl
theorem r35_11 {β : Type} (call : CallF) (md : Bool) (n : Nat) (k : Ex → List AV → Heap → Option β) (x0 x1 x6 x7 x8 x9 : AV) (h : Heap) :
    runK C0 call md 35 n (.region 11 (O35 11) false) k (st 94 [(0, x0), (1, x1), (6, x6), (7, x7), (8, x8), (9, x9)]) h =
    bnd (aBinC tab .neq 27 x9 (.int .i64 0) true) fun v1 =>
    k .normal (st 94 [(0, x0), (1, x1), (6, x6), (7, x7), (8, x8), (9, x9), (54, v1)]) h
  := by kernel_rfl
theorem r35_12 {β : Type} (call : CallF) (md : Bool) (n : Nat) (k : Ex → List AV → Heap → Option β) (x0 x1 x6 x7 x8 x9 x54 : AV) (h : Heap) :
    runK C0 call md 35 n (.region 12 (O35 12) false) k (st 94 [(0, x0), (1, x1), (6, x6), (7, x7), (8, x8), (9, x9), (54, x54)]) h =
    bnd2 (aCall call md (.fn (.func 65) []) [x0, x9] h) fun v1 h2 =>
    k .normal (st 94 [(4, v1)]) h2
  := by kernel_rfl
theorem r35_13 {β : Type} (call : CallF) (md : Bool) (n : Nat) (k : Ex → List AV → Heap → Option β) (x0 x1 x6 x7 x8 x9 x54 : AV) (h : Heap) :
    runK C0 call md 35 n (.region 13 (O35 13) false) k (st 94 [(0, x0), (1, x1), (6, x6), (7, x7), (8, x8), (9, x9), (54, x54)]) h =
    bnd (aNil x0) fun v1 =>
    bnd (aFieldAddr tab 104 v1 0) fun v2 =>
    bnd (aLoad tab 25 v2 h) fun v3 =>
    bnd2 (aCall call md (.fn (.func 14) []) [v3, x7, x8, x6, x1] h) fun v4 h5 =>
    bnd (aExtract v4 0) fun v6 =>
    bnd (aExtract v4 1) fun v7 =>
    k .normal (st 94 [(0, x0), (6, x6), (9, v7), (10, v6)]) h5
  := by kernel_rfl
theorem r35_14 {β : Type} (call : CallF) (md : Bool) (n : Nat) (k : Ex → List AV → Heap → Option β) (x0 x6 x9 x10 : AV) (h : Heap) :
    runK C0 call md 35 n (.region 14 (O35 14) false) k (st 94 [(0, x0), (6, x6), (9, x9), (10, x10)]) h =
    bnd (aBinC tab .neq 27 x9 (.int .i64 0) true) fun v1 =>
    k .normal (st 94 [(0, x0), (6, x6), (9, x9), (10, x10), (71, v1)]) h
  := by kernel_rfl
theorem r35_15 {β : Type} (call : CallF) (md : Bool) (n : Nat) (k : Ex → List AV → Heap → Option β) (x0 x6 x9 x10 x71 : AV) (h : Heap) :
    runK C0 call md 35 n (.region 15 (O35 15) false) k (st 94 [(0, x0), (6, x6), (9, x9), (10, x10), (71, x71)]) h =
    bnd2 (aCall call md (.fn (.func 65) []) [x0, x9] h) fun v1 h2 =>
    k .normal (st 94 [(4, v1)]) h2
  := by kernel_rfl
theorem r35_16 {β : Type} (call : CallF) (md : Bool) (n : Nat) (k : Ex → List AV → Heap → Option β) (x0 x6 x9 x10 x71 : AV) (h : Heap) :
    runK C0 call md 35 n (.region 16 (O35 16) false) k (st 94 [(0, x0), (6, x6), (9, x9), (10, x10), (71, x71)]) h =
    bnd (aNil x0) fun v1 =>
    bnd (aFieldAddr tab 104 v1 0) fun v2 =>
    bnd (aLoad tab 25 v2 h) fun v3 =>
    bnd2 (aCall call md (.fn (.func 66) []) [v3, x6] h) fun v4 h5 =>
    k .normal (st 94 [(0, x0), (6, x6), (9, v4), (10, x10)]) h5
  := by kernel_rfl
theorem r35_17 {β : Type} (call : CallF) (md : Bool) (n : Nat) (k : Ex → List AV → Heap → Option β) (x0 x6 x9 x10 : AV) (h : Heap) :
    runK C0 call md 35 n (.region 17 (O35 17) false) k (st 94 [(0, x0), (6, x6), (9, x9), (10, x10)]) h =
    bnd (aBinC tab .eql 27 x9 (.int .i64 0) true) fun v1 =>
    k .normal (st 94 [(0, x0), (6, x6), (9, x9), (10, x10), (82, v1)]) h
  := by kernel_rfl
theorem r35_18 {β : Type} (call : CallF) (md : Bool) (n : Nat) (k : Ex → List AV → Heap → Option β) (x0 x6 x9 x10 x82 : AV) (h : Heap) :
    runK C0 call md 35 n (.region 18 (O35 18) false) k (st 94 [(0, x0), (6, x6), (9, x9), (10, x10), (82, x82)]) h =
    bnd (aNil x0) fun v1 =>
    bnd (aFieldAddr tab 104 v1 1) fun v2 =>
    bnd (aStore tab 3 v2 x6 h) fun h3 =>
    bnd (aNil x0) fun v4 =>
    bnd (aFieldAddr tab 104 v4 2) fun v5 =>
    bnd (aStore tab 3 v5 x10 h3) fun h6 =>
    k .normal (st 94 [(0, x0), (9, x9)]) h6
  := by kernel_rfl
theorem r35_19a {β : Type} (call : CallF) (md : Bool) (n : Nat) (k : Ex → List AV → Heap → Option β) (x0 x6 x9 x10 x82 : AV) (h : Heap) :
    runK C0 call md 35 n (.region 19 (O35 19) false) k (st 94 [(0, x0), (6, x6), (9, x9), (10, x10), (82, x82)]) h =
    bnd2 (aCall call md (.fn (.func 65) []) [x0, x9] h) fun v1 h2 =>
    k .normal (st 94 [(4, v1)]) h2
  := by kernel_rfl
theorem r35_19b {β : Type} (call : CallF) (md : Bool) (n : Nat) (k : Ex → List AV → Heap → Option β) (x0 x9 : AV) (h : Heap) :
    runK C0 call md 35 n (.region 19 (O35 19) false) k (st 94 [(0, x0), (9, x9)]) h =
    bnd2 (aCall call md (.fn (.func 65) []) [x0, x9] h) fun v1 h2 =>
    k .normal (st 94 [(4, v1)]) h2
  := by kernel_rfl
end Go.Ax

set_option linter.unusedVariables false
namespace Go.Ax
open Go Go.Proofs
noncomputable def O37 (i : Nat) : Array Oper := opsOf i (bodyOf Try.f37)
theorem s37 : bodyOf Try.f37 = (.seq (.region 0 (O37 0) false) (.seq (.seq (.region 1 (O37 1) false) (.cond (Go.Operand.tmp 4) (.seq (.region 2 (O37 2) false) .ret) .skip)) (.seq (.region 3 (O37 3) false) .ret))) := by kernel_rfl
theorem e37 : E0 37 = some ⟨9, [2], bodyOf Try.f37⟩ := by kernel_rfl
theorem r37_0 {β : Type} (call : CallF) (md : Bool) (n : Nat) (k : Ex → List AV → Heap → Option β) (x0 : AV) (h : Heap) :
    runK C0 call md 37 n (.region 0 (O37 0) false) k (st 9 [(0, x0)]) h =
    k .normal (st 9 [(0, x0)]) h
  := by kernel_rfl
theorem r37_1 {β : Type} (call : CallF) (md : Bool) (n : Nat) (k : Ex → List AV → Heap → Option β) (x0 : AV) (h : Heap) :
    runK C0 call md 37 n (.region 1 (O37 1) false) k (st 9 [(0, x0)]) h =
    bnd (aBinC tab .eql 57 x0 .nilp true) fun v1 =>
    k .normal (st 9 [(0, x0), (4, v1)]) h
  := by kernel_rfl
theorem r37_2 {β : Type} (call : CallF) (md : Bool) (n : Nat) (k : Ex → List AV → Heap → Option β) (x0 x4 : AV) (h : Heap) :
    runK C0 call md 37 n (.region 2 (O37 2) false) k (st 9 [(0, x0), (4, x4)]) h =
    k .normal (st 9 [(2, (.int .i64 0))]) h
  := by kernel_rfl
theorem r37_3 {β : Type} (call : CallF) (md : Bool) (n : Nat) (k : Ex → List AV → Heap → Option β) (x0 x4 : AV) (h : Heap) :
    runK C0 call md 37 n (.region 3 (O37 3) false) k (st 9 [(0, x0), (4, x4)]) h =
    bnd (aNil x0) fun v1 =>
    bnd (aFieldAddr tab 104 v1 1) fun v2 =>
    bnd (aLoad tab 3 v2 h) fun v3 =>
    k .normal (st 9 [(2, v3)]) h
  := by kernel_rfl
end Go.Ax

set_option linter.unusedVariables false
namespace Go.Ax
open Go Go.Proofs
noncomputable def O64 (i : Nat) : Array Oper := opsOf i (bodyOf Try.f64)
theorem s64 : bodyOf Try.f64 = (.seq (.region 0 (O64 0) false) (.seq (.block 0 (.seq (.region 1 (O64 1) false) (.cond (Go.Operand.tmp 3) (.seq (.region 2 (O64 2) false) .ret) (.seq (.region 3 (O64 3) false) (.cond (Go.Operand.tmp 6) (.seq (.region 4 (O64 4) false) .ret) .skip))))) (.seq (.region 5 (O64 5) false) .ret))) := by kernel_rfl
theorem e64 : E0 64 = some ⟨11, [2], bodyOf Try.f64⟩ := by kernel_rfl
theorem r64_0 {β : Type} (call : CallF) (md : Bool) (n : Nat) (k : Ex → List AV → Heap → Option β) (x0 : AV) (h : Heap) :
    runK C0 call md 64 n (.region 0 (O64 0) false) k (st 11 [(0, x0)]) h =
    k .normal (st 11 [(0, x0)]) h
  := by kernel_rfl
theorem r64_1 {β : Type} (call : CallF) (md : Bool) (n : Nat) (k : Ex → List AV → Heap → Option β) (x0 : AV) (h : Heap) :
    runK C0 call md 64 n (.region 1 (O64 1) false) k (st 11 [(0, x0)]) h =
    bnd (aBinC tab .eql 57 x0 .nilp true) fun v1 =>
    k .normal (st 11 [(0, x0), (3, v1)]) h
  := by kernel_rfl
theorem r64_2 {β : Type} (call : CallF) (md : Bool) (n : Nat) (k : Ex → List AV → Heap → Option β) (x0 x3 : AV) (h : Heap) :
    runK C0 call md 64 n (.region 2 (O64 2) false) k (st 11 [(0, x0), (3, x3)]) h =
    k .normal (st 11 [(2, (.int .i64 1))]) h
  := by kernel_rfl
theorem r64_3 {β : Type} (call : CallF) (md : Bool) (n : Nat) (k : Ex → List AV → Heap → Option β) (x0 x3 : AV) (h : Heap) :
    runK C0 call md 64 n (.region 3 (O64 3) false) k (st 11 [(0, x0), (3, x3)]) h =
    bnd (aNil x0) fun v1 =>
    bnd (aFieldAddr tab 104 v1 3) fun v2 =>
    bnd (aLoad tab 4 v2 h) fun v3 =>
    k .normal (st 11 [(6, v3)]) h
  := by kernel_rfl
theorem r64_4 {β : Type} (call : CallF) (md : Bool) (n : Nat) (k : Ex → List AV → Heap → Option β) (x6 : AV) (h : Heap) :
    runK C0 call md 64 n (.region 4 (O64 4) false) k (st 11 [(6, x6)]) h =
    k .normal (st 11 [(2, (.int .i64 4))]) h
  := by kernel_rfl
theorem r64_5 {β : Type} (call : CallF) (md : Bool) (n : Nat) (k : Ex → List AV → Heap → Option β) (x6 : AV) (h : Heap) :
    runK C0 call md 64 n (.region 5 (O64 5) false) k (st 11 [(6, x6)]) h =
    k .normal (st 11 [(2, (.int .i64 0))]) h
  := by kernel_rfl
end Go.Ax

set_option linter.unusedVariables false
namespace Go.Ax
open Go Go.Proofs
noncomputable def O65 (i : Nat) : Array Oper := opsOf i (bodyOf Try.f65)
theorem s65 : bodyOf Try.f65 = (.seq (.region 0 (O65 0) false) (.seq (.region 1 (O65 1) false) (.seq (.region 2 (O65 2) false) .ret))) := by kernel_rfl
theorem e65 : E0 65 = some ⟨17, [4], bodyOf Try.f65⟩ := by kernel_rfl
theorem r65_0 {β : Type} (call : CallF) (md : Bool) (n : Nat) (k : Ex → List AV → Heap → Option β) (x0 x1 : AV) (h : Heap) :
    runK C0 call md 65 n (.region 0 (O65 0) false) k (st 17 [(0, x0), (1, x1)]) h =
    k .normal (st 17 [(0, x0), (1, x1)]) h
  := by kernel_rfl
def J65_1_2 {β : Type} (call : CallF) (md : Bool) (k : Ex → List AV → Heap → Option β) (x1 x5 x10 x12 : AV) (h : Heap) : Option β :=
    bnd (aPick x10 (.bool true) x12) fun v1 =>
    bnd (aNil x5) fun v2 =>
    bnd (aFieldAddr tab 104 v2 3) fun v3 =>
    bnd (aStore tab 4 v3 v1 h) fun h4 =>
    k .normal (st 17 [(1, x1)]) h4
theorem j65_1_2 {β : Type} (call : CallF) (md : Bool) (k : Ex → List AV → Heap → Option β) (x0 x1 x5 x6 x7 x8 x9 x10 x11 x12 : AV) (h : Heap) :
    opsK C0 call md 65 (O65 1) ((O65 1).toList.drop 8) (st 17 [(0, x0), (1, x1), (5, x5), (6, x6), (7, x7), (8, x8), (9, x9), (10, x10), (11, x11), (12, x12)]) h (fun tm h => k .normal (clr (C0.keep 65 1) tm) h) = J65_1_2 call md k x1 x5 x10 x12 h := by kernel_rfl
def J65_1_1 {β : Type} (call : CallF) (md : Bool) (k : Ex → List AV → Heap → Option β) (x1 x5 x10 : AV) (h : Heap) : Option β :=
    onG false x10 (
      bnd (aBinC tab .eql 27 x1 (.int .i64 4) true) fun v9 =>
      J65_1_2 call md k x1 x5 x10 v9 h) (
      J65_1_2 call md k x1 x5 x10 .skip h)
theorem g65_1_1 {β : Type} (call : CallF) (md : Bool) (kk : List AV → Heap → Option β) (x0 x1 x5 x6 x7 x8 x9 x10 : AV) (h : Heap) :
    opsK C0 call md 65 (O65 1) (((O65 1).toList.drop 6).take 2) (st 17 [(0, x0), (1, x1), (5, x5), (6, x6), (7, x7), (8, x8), (9, x9), (10, x10)]) h kk =
    onG false x10 (
      bnd (aBinC tab .eql 27 x1 (.int .i64 4) true) fun v10 =>
      kk (st 17 [(0, x0), (1, x1), (5, x5), (6, x6), (7, x7), (8, x8), (9, x9), (10, x10), (11, x1), (12, v10)]) h) (
      kk (st 17 [(0, x0), (1, x1), (5, x5), (6, x6), (7, x7), (8, x8), (9, x9), (10, x10), (11, .skip), (12, .skip)]) h)
  := by cases x10 with | bool b => (cases b <;> kernel_rfl) | _ => kernel_rfl
theorem j65_1_1 {β : Type} (call : CallF) (md : Bool) (k : Ex → List AV → Heap → Option β) (x0 x1 x5 x6 x7 x8 x9 x10 : AV) (h : Heap) :
    opsK C0 call md 65 (O65 1) ((O65 1).toList.drop 6) (st 17 [(0, x0), (1, x1), (5, x5), (6, x6), (7, x7), (8, x8), (9, x9), (10, x10)]) h (fun tm h => k .normal (clr (C0.keep 65 1) tm) h) = J65_1_1 call md k x1 x5 x10 h := by
  have e : ((O65 1).toList.drop 6) = ((O65 1).toList.drop 6).take 2 ++ (O65 1).toList.drop 8 := by kernel_rfl
  rw [show opsK C0 call md 65 (O65 1) ((O65 1).toList.drop 6) = opsK C0 call md 65 (O65 1) (((O65 1).toList.drop 6).take 2 ++ (O65 1).toList.drop 8) from congrArg _ e]
  rw [opsK_append, g65_1_1]
  simp only [j65_1_2]
  rfl
def J65_1_0 {β : Type} (call : CallF) (md : Bool) (k : Ex → List AV → Heap → Option β) (x0 x1 : AV) (h : Heap) : Option β :=
    bnd (aNil x0) fun v11 =>
    bnd (aFieldAddr tab 104 v11 3) fun v12 =>
    bnd (aLoad tab 4 v12 h) fun v13 =>
    J65_1_1 call md k x1 x0 v13 h
theorem g65_1_0 {β : Type} (call : CallF) (md : Bool) (kk : List AV → Heap → Option β) (x0 x1 : AV) (h : Heap) :
    opsK C0 call md 65 (O65 1) ((O65 1).toList.take 6) (st 17 [(0, x0), (1, x1)]) h kk =
    bnd (aNil x0) fun v14 =>
    bnd (aFieldAddr tab 104 v14 3) fun v15 =>
    bnd (aLoad tab 4 v15 h) fun v16 =>
    kk (st 17 [(0, x0), (1, x1), (5, x0), (6, x0), (7, v14), (8, v15), (9, v16), (10, v16)]) h
  := by kernel_rfl
theorem j65_1_0 {β : Type} (call : CallF) (md : Bool) (k : Ex → List AV → Heap → Option β) (x0 x1 : AV) (h : Heap) :
    opsK C0 call md 65 (O65 1) (O65 1).toList (st 17 [(0, x0), (1, x1)]) h (fun tm h => k .normal (clr (C0.keep 65 1) tm) h) = J65_1_0 call md k x0 x1 h := by
  have e : (O65 1).toList = (O65 1).toList.take 6 ++ (O65 1).toList.drop 6 := by kernel_rfl
  rw [show opsK C0 call md 65 (O65 1) (O65 1).toList = opsK C0 call md 65 (O65 1) ((O65 1).toList.take 6 ++ (O65 1).toList.drop 6) from congrArg _ e]
  rw [opsK_append, g65_1_0]
  simp only [j65_1_1]
  rfl
theorem r65_1 {β : Type} (call : CallF) (md : Bool) (n : Nat) (k : Ex → List AV → Heap → Option β) (x0 x1 : AV) (h : Heap) :
    runK C0 call md 65 n (.region 1 (O65 1) false) k (st 17 [(0, x0), (1, x1)]) h = J65_1_0 call md k x0 x1 h := (runK_region C0 call md 65 n 1 (O65 1) k (st 17 [(0, x0), (1, x1)]) h).trans (j65_1_0 call md k x0 x1 h)
theorem r65_2 {β : Type} (call : CallF) (md : Bool) (n : Nat) (k : Ex → List AV → Heap → Option β) (x1 : AV) (h : Heap) :
    runK C0 call md 65 n (.region 2 (O65 2) false) k (st 17 [(1, x1)]) h =
    k .normal (st 17 [(4, x1)]) h
  := by kernel_rfl
end Go.Ax

namespace Go.Ax
open Go Go.Proofs
theorem lp_nil (q : Nat) : aBinC tab .eql 57 (lp q) .nilp true = some (.bool false) := by simp [aBinC, aBin, aEq]
theorem nil_lp : aBinC tab .eql 57 .nilp .nilp true = some (.bool true) := by simp [aBinC, aBin, aEq]
theorem lp_chk (q : Nat) : aNil (lp q) = some (lp q) := rfl
theorem lpf0 (q : Nat) : aFieldAddr tab 104 (lp q) 0 = some (.ref q [0] 25) := by simp [aFieldAddr]
theorem lpf1 (q : Nat) : aFieldAddr tab 104 (lp q) 1 = some (.ref q [1] 3) := by simp [aFieldAddr]
theorem lpf2 (q : Nat) : aFieldAddr tab 104 (lp q) 2 = some (.ref q [2] 3) := by simp [aFieldAddr]
theorem lpf3 (q : Nat) : aFieldAddr tab 104 (lp q) 3 = some (.ref q [3] 4) := by simp [aFieldAddr]
section fields
variable {h : Heap} {q p gen : Nat} {pos : Int} {w : Bool} (hq : h[q]? = some (lv p gen pos w))
include hq
theorem lld0 : aLoad tab 25 (.ref q [0] 25) h = some (dp p) := load_fld (i := 0) hq rfl (by simp)
theorem lld1 : aLoad tab 3 (.ref q [1] 3) h = some (.int .i64 gen) := load_fld (i := 1) hq rfl (by simp)
theorem lld2 : aLoad tab 3 (.ref q [2] 3) h = some (.int .i64 pos) := load_fld (i := 2) hq rfl (by simp)
theorem lld3 : aLoad tab 4 (.ref q [3] 4) h = some (.bool w) := load_fld (i := 3) hq rfl (by simp)
theorem lst1 (g : Nat) : aStore tab 3 (.ref q [1] 3) (.int .i64 g) h = some (h.set q (lv p g pos w)) := store_fld (i := 1) hq rfl (by simp) rfl
theorem lst2 (a : Int) : aStore tab 3 (.ref q [2] 3) (.int .i64 a) h = some (h.set q (lv p gen a w)) := store_fld (i := 2) hq rfl (by simp) rfl
theorem lst3 (c : Bool) : aStore tab 4 (.ref q [3] 4) (.bool c) h = some (h.set q (lv p gen pos c)) := store_fld (i := 3) hq rfl (by simp) rfl
end fields
theorem check_nil (md : Bool) (h : Heap) (k : Nat) : exFn C0 E0 (k + 1) md 64 [.nilp] h = some (.int .i64 1, h) := by
  refine exFn_of e64 ?_
  rw [fnK, show ([AV.nilp] ++ List.replicate (11 - [AV.nilp].length) AV.undef) = st 11 [(0, .nilp)] from rfl, s64]
  simp -implicitDefEqProofs only [↓runK_seq, runK_seq, ↓runK_cond, runK_cond, ↓runK_block, runK_block, ↓runK_loop, runK_loop, ↓runK_skip, runK_skip, ↓runK_ret, runK_ret, ↓runK_exit, runK_exit, ↓seqE_n, seqE_n, ↓seqE_e, seqE_e, ↓seqE_r, seqE_r, ↓blkE_n, blkE_n, ↓blkE_e, blkE_e, ↓blkE_r, blkE_r, ↓retK_n, retK_n, ↓retK_r, retK_r, ↓aCall_fn, aCall_fn, ↓bnd_s, bnd_s, ↓bnd2_s, bnd2_s, ↓onB_t, onB_t, ↓onB_f, onB_f, ↓onG_tt, onG_tt, ↓onG_tf, onG_tf, ↓onG_ft, onG_ft, ↓onG_ff, onG_ff, ↓onG_s, onG_s, ↓onT_t, onT_t, ↓aPick_t, aPick_t, ↓aPick_f, aPick_f, decide_true, decide_false, st_tmp, results1, results2, List.lookup_cons, List.lookup_nil, Nat.reduceBEq, Bool.false_eq_true, ↓reduceIte, BEq.rfl, Nat.reduceLT, Option.getD_some, Option.getD_none, ↓r64_0, r64_0, ↓r64_1, r64_1, ↓r64_2, r64_2, ↓r64_3, r64_3, ↓r64_4, r64_4, ↓r64_5, r64_5, nil_lp]
theorem check_ok {h : Heap} {q p gen : Nat} {pos : Int} {w : Bool} (hq : h[q]? = some (lv p gen pos w)) (md : Bool) (k : Nat) : exFn C0 E0 (k + 1) md 64 [lp q] h = some (.int .i64 (if w then 4 else 0), h) := by
  refine exFn_of e64 ?_
  rw [fnK, show ([lp q] ++ List.replicate (11 - [lp q].length) AV.undef) = st 11 [(0, lp q)] from rfl, s64]
  cases w
  · simp -implicitDefEqProofs only [↓runK_seq, runK_seq, ↓runK_cond, runK_cond, ↓runK_block, runK_block, ↓runK_loop, runK_loop, ↓runK_skip, runK_skip, ↓runK_ret, runK_ret, ↓runK_exit, runK_exit, ↓seqE_n, seqE_n, ↓seqE_e, seqE_e, ↓seqE_r, seqE_r, ↓blkE_n, blkE_n, ↓blkE_e, blkE_e, ↓blkE_r, blkE_r, ↓retK_n, retK_n, ↓retK_r, retK_r, ↓aCall_fn, aCall_fn, ↓bnd_s, bnd_s, ↓bnd2_s, bnd2_s, ↓onB_t, onB_t, ↓onB_f, onB_f, ↓onG_tt, onG_tt, ↓onG_tf, onG_tf, ↓onG_ft, onG_ft, ↓onG_ff, onG_ff, ↓onG_s, onG_s, ↓onT_t, onT_t, ↓aPick_t, aPick_t, ↓aPick_f, aPick_f, decide_true, decide_false, st_tmp, results1, results2, List.lookup_cons, List.lookup_nil, Nat.reduceBEq, Bool.false_eq_true, ↓reduceIte, BEq.rfl, Nat.reduceLT, Option.getD_some, Option.getD_none, ↓r64_0, r64_0, ↓r64_1, r64_1, ↓r64_2, r64_2, ↓r64_3, r64_3, ↓r64_4, r64_4, ↓r64_5, r64_5, lp_nil, lp_chk, lpf3, lld3 hq]
  · simp -implicitDefEqProofs only [↓runK_seq, runK_seq, ↓runK_cond, runK_cond, ↓runK_block, runK_block, ↓runK_loop, runK_loop, ↓runK_skip, runK_skip, ↓runK_ret, runK_ret, ↓runK_exit, runK_exit, ↓seqE_n, seqE_n, ↓seqE_e, seqE_e, ↓seqE_r, seqE_r, ↓blkE_n, blkE_n, ↓blkE_e, blkE_e, ↓blkE_r, blkE_r, ↓retK_n, retK_n, ↓retK_r, retK_r, ↓aCall_fn, aCall_fn, ↓bnd_s, bnd_s, ↓bnd2_s, bnd2_s, ↓onB_t, onB_t, ↓onB_f, onB_f, ↓onG_tt, onG_tt, ↓onG_tf, onG_tf, ↓onG_ft, onG_ft, ↓onG_ff, onG_ff, ↓onG_s, onG_s, ↓onT_t, onT_t, ↓aPick_t, aPick_t, ↓aPick_f, aPick_f, decide_true, decide_false, st_tmp, results1, results2, List.lookup_cons, List.lookup_nil, Nat.reduceBEq, Bool.false_eq_true, ↓reduceIte, BEq.rfl, Nat.reduceLT, Option.getD_some, Option.getD_none, ↓r64_0, r64_0, ↓r64_1, r64_1, ↓r64_2, r64_2, ↓r64_3, r64_3, ↓r64_4, r64_4, ↓r64_5, r64_5, lp_nil, lp_chk, lpf3, lld3 hq]
theorem done_ok {h : Heap} {q p gen : Nat} {pos : Int} {w : Bool} (hq : h[q]? = some (lv p gen pos w)) (e : Int) (md : Bool) (k : Nat) :
    exFn C0 E0 (k + 1) md 65 [lp q, .int .i64 e] h = some (.int .i64 e, h.set q (lv p gen pos (w || decide (e = 4)))) := by
  refine exFn_of e65 ?_
  rw [fnK, show ([lp q, .int .i64 e] ++ List.replicate (17 - [lp q, .int .i64 e].length) AV.undef) = st 17 [(0, lp q), (1, .int .i64 e)] from rfl, s65]
  cases w
  · simp -implicitDefEqProofs only [↓runK_seq, runK_seq, ↓runK_cond, runK_cond, ↓runK_block, runK_block, ↓runK_loop, runK_loop, ↓runK_skip, runK_skip, ↓runK_ret, runK_ret, ↓runK_exit, runK_exit, ↓seqE_n, seqE_n, ↓seqE_e, seqE_e, ↓seqE_r, seqE_r, ↓blkE_n, blkE_n, ↓blkE_e, blkE_e, ↓blkE_r, blkE_r, ↓retK_n, retK_n, ↓retK_r, retK_r, ↓aCall_fn, aCall_fn, ↓bnd_s, bnd_s, ↓bnd2_s, bnd2_s, ↓onB_t, onB_t, ↓onB_f, onB_f, ↓onG_tt, onG_tt, ↓onG_tf, onG_tf, ↓onG_ft, onG_ft, ↓onG_ff, onG_ff, ↓onG_s, onG_s, ↓onT_t, onT_t, ↓aPick_t, aPick_t, ↓aPick_f, aPick_f, decide_true, decide_false, st_tmp, results1, results2, List.lookup_cons, List.lookup_nil, Nat.reduceBEq, Bool.false_eq_true, ↓reduceIte, BEq.rfl, Nat.reduceLT, Option.getD_some, Option.getD_none, ↓r65_0, r65_0, ↓r65_1, r65_1, J65_1_0, J65_1_1, J65_1_2, ↓r65_2, r65_2, lp_chk, lpf3, lld3 hq, bin_eql, lst3 hq, Bool.false_or]
  · simp -implicitDefEqProofs only [↓runK_seq, runK_seq, ↓runK_cond, runK_cond, ↓runK_block, runK_block, ↓runK_loop, runK_loop, ↓runK_skip, runK_skip, ↓runK_ret, runK_ret, ↓runK_exit, runK_exit, ↓seqE_n, seqE_n, ↓seqE_e, seqE_e, ↓seqE_r, seqE_r, ↓blkE_n, blkE_n, ↓blkE_e, blkE_e, ↓blkE_r, blkE_r, ↓retK_n, retK_n, ↓retK_r, retK_r, ↓aCall_fn, aCall_fn, ↓bnd_s, bnd_s, ↓bnd2_s, bnd2_s, ↓onB_t, onB_t, ↓onB_f, onB_f, ↓onG_tt, onG_tt, ↓onG_tf, onG_tf, ↓onG_ft, onG_ft, ↓onG_ff, onG_ff, ↓onG_s, onG_s, ↓onT_t, onT_t, ↓aPick_t, aPick_t, ↓aPick_f, aPick_f, decide_true, decide_false, st_tmp, results1, results2, List.lookup_cons, List.lookup_nil, Nat.reduceBEq, Bool.false_eq_true, ↓reduceIte, BEq.rfl, Nat.reduceLT, Option.getD_some, Option.getD_none, ↓r65_0, r65_0, ↓r65_1, r65_1, J65_1_0, J65_1_1, J65_1_2, ↓r65_2, r65_2, lp_chk, lpf3, lld3 hq, lst3 hq, Bool.true_or]
theorem gen_ok {h : Heap} {q p gen : Nat} {pos : Int} {w : Bool} (hq : h[q]? = some (lv p gen pos w)) (k : Nat) : exFn C0 E0 (k + 1) false 37 [lp q] h = some (.int .i64 gen, h) := by
  refine exFn_of e37 ?_
  rw [fnK, show ([lp q] ++ List.replicate (9 - [lp q].length) AV.undef) = st 9 [(0, lp q)] from rfl, s37]
  simp -implicitDefEqProofs only [↓runK_seq, runK_seq, ↓runK_cond, runK_cond, ↓runK_block, runK_block, ↓runK_loop, runK_loop, ↓runK_skip, runK_skip, ↓runK_ret, runK_ret, ↓runK_exit, runK_exit, ↓seqE_n, seqE_n, ↓seqE_e, seqE_e, ↓seqE_r, seqE_r, ↓blkE_n, blkE_n, ↓blkE_e, blkE_e, ↓blkE_r, blkE_r, ↓retK_n, retK_n, ↓retK_r, retK_r, ↓aCall_fn, aCall_fn, ↓bnd_s, bnd_s, ↓bnd2_s, bnd2_s, ↓onB_t, onB_t, ↓onB_f, onB_f, ↓onG_tt, onG_tt, ↓onG_tf, onG_tf, ↓onG_ft, onG_ft, ↓onG_ff, onG_ff, ↓onG_s, onG_s, ↓onT_t, onT_t, ↓aPick_t, aPick_t, ↓aPick_f, aPick_f, decide_true, decide_false, st_tmp, results1, results2, List.lookup_cons, List.lookup_nil, Nat.reduceBEq, Bool.false_eq_true, ↓reduceIte, BEq.rfl, Nat.reduceLT, Option.getD_some, Option.getD_none, ↓r37_0, r37_0, ↓r37_1, r37_1, ↓r37_2, r37_2, ↓r37_3, r37_3, lp_nil, lp_chk, lpf1, lld1 hq]
theorem used_ok {S : Obs} {h : Heap} {q p r : Nat} {w : Wl} (L : Lsk S h q p r w) (hn : 2 ≤ w.d.lasts.length) (hg : w.gen < 2 ^ 62) (hp : 0 ≤ w.pos) (hp2 : w.pos < 2 ^ 62) (k : Nat) :
    exFn C0 E0 (k + 3) false 34 [lp q] h = some (.int .i64 (w.pos - (fromOf w.d.lasts.length w.gen : Nat)), h) := by
  refine exFn_of e34 ?_
  have hfew := L.dsk.few
  have ht := toOf_le w.d.lasts.length w.gen hn
  have bk := bounds_ok L.dsk hn w.gen hg false k
  have wr : IntKind.i64.wrap (w.pos - (fromOf w.d.lasts.length w.gen : Nat)) = w.pos - (fromOf w.d.lasts.length w.gen : Nat) := by unfold toOf at ht; rw [wrap_i64] <;> omega
  rw [fnK, show ([lp q] ++ List.replicate (25 - [lp q].length) AV.undef) = st 25 [(0, lp q)] from rfl, s34]
  simp -implicitDefEqProofs only [↓runK_seq, runK_seq, ↓runK_cond, runK_cond, ↓runK_block, runK_block, ↓runK_loop, runK_loop, ↓runK_skip, runK_skip, ↓runK_ret, runK_ret, ↓runK_exit, runK_exit, ↓seqE_n, seqE_n, ↓seqE_e, seqE_e, ↓seqE_r, seqE_r, ↓blkE_n, blkE_n, ↓blkE_e, blkE_e, ↓blkE_r, blkE_r, ↓retK_n, retK_n, ↓retK_r, retK_r, ↓aCall_fn, aCall_fn, ↓bnd_s, bnd_s, ↓bnd2_s, bnd2_s, ↓onB_t, onB_t, ↓onB_f, onB_f, ↓onG_tt, onG_tt, ↓onG_tf, onG_tf, ↓onG_ft, onG_ft, ↓onG_ff, onG_ff, ↓onG_s, onG_s, ↓onT_t, onT_t, ↓aPick_t, aPick_t, ↓aPick_f, aPick_f, decide_true, decide_false, st_tmp, results1, results2, List.lookup_cons, List.lookup_nil, Nat.reduceBEq, Bool.false_eq_true, ↓reduceIte, BEq.rfl, Nat.reduceLT, Option.getD_some, Option.getD_none, ↓r34_0, r34_0, ↓r34_1, r34_1, ↓r34_2, r34_2, ↓r34_3, r34_3, ↓r34_4, r34_4, lp_nil, lp_chk, lpf0, lpf1, lpf2, lld0 L.var, lld1 L.var, lld2 L.var, bk, ext0, ext1, bin_sub, wr]
theorem Lsk.set {S : Obs} {h : Heap} {q p r : Nat} {w : Wl} (hq : S q) (hv : h[q]? = some (lv p w.gen w.pos w.down)) {d : Dk} (D : Dsk (fun i => S i ∧ i ≠ q) h p r d) (gen : Nat) (pos : Int) (dn : Bool) :
    Lsk S (h.set q (lv p gen pos dn)) q p r ⟨d, gen, pos, dn⟩ ∧ Keep S h (h.set q (lv p gen pos dn)) := by
  have hlt := (List.getElem?_eq_some_iff.1 hv).1
  refine ⟨⟨hq, by simp [hlt], D.keep (U := fun i => i = q) (Keep.set h _ rfl) fun i _ h1 h2 => h1.2 h2⟩, Keep.set h _ hq⟩
def Wl.append (w : Wl) (b : List UInt8) : Int × Wl :=
  if w.down then (4, w)
  else
    let r := w.d.lay w.pos (toOf w.d.lasts.length w.gen : Nat) w.gen b
    (r.1.2, ⟨r.2, w.gen, if r.1.2 = 0 then r.1.1 else w.pos, decide (r.1.2 = 4)⟩)
theorem append_nil {x : AV} (h : Heap) (k : Nat) : exFn C0 E0 (k + 2) false 33 [.nilp, x] h = some (.int .i64 1, h) := by
  refine exFn_of e33 ?_
  have c0 : decide ((1 : Int) ≠ 0) = true := by decide
  rw [fnK, show ([.nilp, x] ++ List.replicate (54 - [.nilp, x].length) AV.undef) = st 54 [(0, .nilp), (1, x)] from rfl, s33]
  simp -implicitDefEqProofs only [↓runK_seq, runK_seq, ↓runK_cond, runK_cond, ↓runK_block, runK_block, ↓runK_loop, runK_loop, ↓runK_skip, runK_skip, ↓runK_ret, runK_ret, ↓runK_exit, runK_exit, ↓seqE_n, seqE_n, ↓seqE_e, seqE_e, ↓seqE_r, seqE_r, ↓blkE_n, blkE_n, ↓blkE_e, blkE_e, ↓blkE_r, blkE_r, ↓retK_n, retK_n, ↓retK_r, retK_r, ↓aCall_fn, aCall_fn, ↓bnd_s, bnd_s, ↓bnd2_s, bnd2_s, ↓onB_t, onB_t, ↓onB_f, onB_f, ↓onG_tt, onG_tt, ↓onG_tf, onG_tf, ↓onG_ft, onG_ft, ↓onG_ff, onG_ff, ↓onG_s, onG_s, ↓onT_t, onT_t, ↓aPick_t, aPick_t, ↓aPick_f, aPick_f, decide_true, decide_false, st_tmp, results1, results2, List.lookup_cons, List.lookup_nil, Nat.reduceBEq, Bool.false_eq_true, ↓reduceIte, BEq.rfl, Nat.reduceLT, Option.getD_some, Option.getD_none, ↓r33_0, r33_0, ↓r33_1, r33_1, ↓r33_2, r33_2, ↓r33_3, r33_3, ↓r33_4, r33_4, ↓r33_5, r33_5, ↓r33_6, r33_6, ↓r33_7, r33_7, ↓r33_8a, r33_8a, ↓r33_8b, r33_8b, check_nil, neq27, c0]
theorem append_ok {S : Obs} {h : Heap} {q p r : Nat} {w : Wl} (L : Lsk S h q p r w) (up : Up S h) (hn : 2 ≤ w.d.lasts.length) (hg : w.gen < 2 ^ 62) (hp : w.pos < 2 ^ 62) (s : Sane w.d) {x : AV} {b : List UInt8} (hx : Bs x b) (hb : b.length < 2 ^ 61) (k : Nat) (hk : 10400 < k) :
    ∃ h', exFn C0 E0 (k + 1) false 33 [lp q, x] h = some (.int .i64 (w.append b).1, h') ∧ Lsk S h' q p r (w.append b).2 ∧ Keep S h h' := by
  obtain ⟨k, rfl⟩ : ∃ j, k = j + 3 := ⟨k - 3, by omega⟩
  have few := s.few
  have n0 : ([lp q, x] ++ List.replicate (54 - [lp q, x].length) AV.undef) = st 54 [(0, lp q), (1, x)] := rfl
  have ck := check_ok L.var false (k + 2)
  have hlt := (List.getElem?_eq_some_iff.1 L.var).1
  have hv := L.var
  unfold Wl.append
  cases hd : w.down
  case true =>
    rw [hd] at ck
    have c0 : decide ((4 : Int) ≠ 0) = true := by decide
    refine ⟨h, exFn_of e33 ?_, L, Keep.refl _ _⟩
    rw [fnK, n0, s33]
    simp -implicitDefEqProofs only [↓runK_seq, runK_seq, ↓runK_cond, runK_cond, ↓runK_block, runK_block, ↓runK_loop, runK_loop, ↓runK_skip, runK_skip, ↓runK_ret, runK_ret, ↓runK_exit, runK_exit, ↓seqE_n, seqE_n, ↓seqE_e, seqE_e, ↓seqE_r, seqE_r, ↓blkE_n, blkE_n, ↓blkE_e, blkE_e, ↓blkE_r, blkE_r, ↓retK_n, retK_n, ↓retK_r, retK_r, ↓aCall_fn, aCall_fn, ↓bnd_s, bnd_s, ↓bnd2_s, bnd2_s, ↓onB_t, onB_t, ↓onB_f, onB_f, ↓onG_tt, onG_tt, ↓onG_tf, onG_tf, ↓onG_ft, onG_ft, ↓onG_ff, onG_ff, ↓onG_s, onG_s, ↓onT_t, onT_t, ↓aPick_t, aPick_t, ↓aPick_f, aPick_f, decide_true, decide_false, st_tmp, results1, results2, List.lookup_cons, List.lookup_nil, Nat.reduceBEq, Bool.false_eq_true, ↓reduceIte, BEq.rfl, Nat.reduceLT, Option.getD_some, Option.getD_none, ↓r33_0, r33_0, ↓r33_1, r33_1, ↓r33_2, r33_2, ↓r33_3, r33_3, ↓r33_4, r33_4, ↓r33_5, r33_5, ↓r33_6, r33_6, ↓r33_7, r33_7, ↓r33_8a, r33_8a, ↓r33_8b, r33_8b, ck, neq27, c0]
  rw [hd] at ck
  have z0 : decide ((0 : Int) ≠ 0) = false := by decide
  have bk := bounds_ok L.dsk hn w.gen hg false (k + 1)
  have upd : Up (fun i => S i ∧ i ≠ q) h := fun i hi => ⟨up i hi, by omega⟩
  obtain ⟨h1, l1, D1, k1⟩ := lay_ok L.dsk upd (by omega) s.fuse w.pos (toOf w.d.lasts.length w.gen : Nat) w.gen (by omega) hx hb (k + 2) (by omega)
  simp only [Bool.false_eq_true, if_false]
  generalize w.d.lay w.pos (toOf w.d.lasts.length w.gen : Nat) w.gen b = R at *
  obtain ⟨⟨nx, le⟩, ld⟩ := R
  simp only at *
  have hv1 : h1[q]? = some (lv p w.gen w.pos w.down) := by rw [k1.2 q (fun h => h.2 rfl)]; exact hv
  rw [hd] at hv hv1
  have kk := k1.mono (U := S) fun i hi => hi.1
  by_cases z : le = 0
  · subst z
    have hlt1 := (List.getElem?_eq_some_iff.1 hv1).1
    obtain ⟨L2, k2⟩ := Lsk.set (w := ⟨ld, w.gen, w.pos, false⟩) L.hq hv1 D1 w.gen nx false
    obtain ⟨L3, k3⟩ := Lsk.set (w := ⟨ld, w.gen, nx, false⟩) L.hq L2.var L2.dsk w.gen nx (false || decide ((0 : Int) = 4))
    have dk := done_ok L2.var 0 false (k + 2)
    have e1 : decide ((0 : Int) = 0) = true := by decide
    refine ⟨_, exFn_of e33 ?_, L3, (kk.trans k2).trans k3⟩
    rw [fnK, n0, s33]
    simp -implicitDefEqProofs only [↓runK_seq, runK_seq, ↓runK_cond, runK_cond, ↓runK_block, runK_block, ↓runK_loop, runK_loop, ↓runK_skip, runK_skip, ↓runK_ret, runK_ret, ↓runK_exit, runK_exit, ↓seqE_n, seqE_n, ↓seqE_e, seqE_e, ↓seqE_r, seqE_r, ↓blkE_n, blkE_n, ↓blkE_e, blkE_e, ↓blkE_r, blkE_r, ↓retK_n, retK_n, ↓retK_r, retK_r, ↓aCall_fn, aCall_fn, ↓bnd_s, bnd_s, ↓bnd2_s, bnd2_s, ↓onB_t, onB_t, ↓onB_f, onB_f, ↓onG_tt, onG_tt, ↓onG_tf, onG_tf, ↓onG_ft, onG_ft, ↓onG_ff, onG_ff, ↓onG_s, onG_s, ↓onT_t, onT_t, ↓aPick_t, aPick_t, ↓aPick_f, aPick_f, decide_true, decide_false, st_tmp, results1, results2, List.lookup_cons, List.lookup_nil, Nat.reduceBEq, Bool.false_eq_true, ↓reduceIte, BEq.rfl, Nat.reduceLT, Option.getD_some, Option.getD_none, ↓r33_0, r33_0, ↓r33_1, r33_1, ↓r33_2, r33_2, ↓r33_3, r33_3, ↓r33_4, r33_4, ↓r33_5, r33_5, ↓r33_6, r33_6, ↓r33_7, r33_7, ↓r33_8a, r33_8a, ↓r33_8b, r33_8b, ck, neq27, z0, lp_chk, lpf0, lpf1, lpf2, lld0 hv, lld1 hv, lld2 hv, bk, ext0, ext1, l1, bin_eql, e1, lst2 hv1, dk]
  · obtain ⟨L3, k3⟩ := Lsk.set (w := ⟨ld, w.gen, w.pos, false⟩) L.hq hv1 D1 w.gen w.pos (false || decide (le = 4))
    have dk := done_ok hv1 le false (k + 2)
    have e1 : decide (le = 0) = false := decide_eq_false z
    rw [if_neg z]
    refine ⟨_, exFn_of e33 ?_, L3, kk.trans k3⟩
    rw [fnK, n0, s33]
    simp -implicitDefEqProofs only [↓runK_seq, runK_seq, ↓runK_cond, runK_cond, ↓runK_block, runK_block, ↓runK_loop, runK_loop, ↓runK_skip, runK_skip, ↓runK_ret, runK_ret, ↓runK_exit, runK_exit, ↓seqE_n, seqE_n, ↓seqE_e, seqE_e, ↓seqE_r, seqE_r, ↓blkE_n, blkE_n, ↓blkE_e, blkE_e, ↓blkE_r, blkE_r, ↓retK_n, retK_n, ↓retK_r, retK_r, ↓aCall_fn, aCall_fn, ↓bnd_s, bnd_s, ↓bnd2_s, bnd2_s, ↓onB_t, onB_t, ↓onB_f, onB_f, ↓onG_tt, onG_tt, ↓onG_tf, onG_tf, ↓onG_ft, onG_ft, ↓onG_ff, onG_ff, ↓onG_s, onG_s, ↓onT_t, onT_t, ↓aPick_t, aPick_t, ↓aPick_f, aPick_f, decide_true, decide_false, st_tmp, results1, results2, List.lookup_cons, List.lookup_nil, Nat.reduceBEq, Bool.false_eq_true, ↓reduceIte, BEq.rfl, Nat.reduceLT, Option.getD_some, Option.getD_none, ↓r33_0, r33_0, ↓r33_1, r33_1, ↓r33_2, r33_2, ↓r33_3, r33_3, ↓r33_4, r33_4, ↓r33_5, r33_5, ↓r33_6, r33_6, ↓r33_7, r33_7, ↓r33_8a, r33_8a, ↓r33_8b, r33_8b, ck, neq27, z0, lp_chk, lpf0, lpf1, lpf2, lld0 hv, lld1 hv, lld2 hv, bk, ext0, ext1, l1, bin_eql, e1, dk]
end Go.Ax

namespace Go.Ax
open Go Go.Proofs
def Wl.checkpoint (w : Wl) (b : List UInt8) : Int × Wl :=
  if w.down then (4, w)
  else
    let n := w.d.lasts.length
    let gen := w.gen + 1
    if 8192 < b.length then (1, w)
    else if 2147483647 < gen ∨ ((toOf n gen : Nat) : Int) - (fromOf n gen : Nat) < sizeOf b.length then (3, w)
    else
      let c := w.d.clean (fromOf n gen : Nat) (toOf n gen : Nat)
      if c.1 ≠ 0 then (c.1, ⟨c.2, w.gen, w.pos, decide (c.1 = 4)⟩)
      else
        let r := c.2.lay (fromOf n gen : Nat) (toOf n gen : Nat) gen b
        if r.1.2 ≠ 0 then (r.1.2, ⟨r.2, w.gen, w.pos, decide (r.1.2 = 4)⟩)
        else
          let i := r.2.install gen
          if i.1 = 0 then (0, ⟨i.2, gen, r.1.1, false⟩) else (i.1, ⟨i.2, w.gen, w.pos, decide (i.1 = 4)⟩)
theorem checkpoint_ok {S : Obs} {h : Heap} {q p r : Nat} {w : Wl} (L : Lsk S h q p r w) (up : Up S h) (hn : 2 ≤ w.d.lasts.length) (hg : w.gen < 2 ^ 61) (s : Sane w.d) {x : AV} {b : List UInt8} (hx : Bs x b) (hb : b.length < 2 ^ 61) (k : Nat) (hk : 10400 < k) :
    ∃ h', exFn C0 E0 (k + 1) false 35 [lp q, x] h = some (.int .i64 (w.checkpoint b).1, h') ∧ Lsk S h' q p r (w.checkpoint b).2 ∧ Keep S h h' := by
  obtain ⟨k, rfl⟩ : ∃ j, k = j + 3 := ⟨k - 3, by omega⟩
  have few := s.few
  have n0 : ([lp q, x] ++ List.replicate (94 - [lp q, x].length) AV.undef) = st 94 [(0, lp q), (1, x)] := rfl
  have ck := check_ok L.var false (k + 2)
  have hlt := (List.getElem?_eq_some_iff.1 L.var).1
  have hv := L.var
  have hDl := L.dsk.few
  unfold Wl.checkpoint
  cases hd : w.down
  case true =>
    rw [hd] at ck
    have c0 : decide ((4 : Int) ≠ 0) = true := by decide
    refine ⟨h, exFn_of e35 ?_, L, Keep.refl _ _⟩
    rw [fnK, n0, s35]
    simp -implicitDefEqProofs only [↓runK_seq, runK_seq, ↓runK_cond, runK_cond, ↓runK_block, runK_block, ↓runK_loop, runK_loop, ↓runK_skip, runK_skip, ↓runK_ret, runK_ret, ↓runK_exit, runK_exit, ↓seqE_n, seqE_n, ↓seqE_e, seqE_e, ↓seqE_r, seqE_r, ↓blkE_n, blkE_n, ↓blkE_e, blkE_e, ↓blkE_r, blkE_r, ↓retK_n, retK_n, ↓retK_r, retK_r, ↓aCall_fn, aCall_fn, ↓bnd_s, bnd_s, ↓bnd2_s, bnd2_s, ↓onB_t, onB_t, ↓onB_f, onB_f, ↓onG_tt, onG_tt, ↓onG_tf, onG_tf, ↓onG_ft, onG_ft, ↓onG_ff, onG_ff, ↓onG_s, onG_s, ↓onT_t, onT_t, ↓aPick_t, aPick_t, ↓aPick_f, aPick_f, decide_true, decide_false, st_tmp, results1, results2, List.lookup_cons, List.lookup_nil, Nat.reduceBEq, Bool.false_eq_true, ↓reduceIte, BEq.rfl, Nat.reduceLT, Option.getD_some, Option.getD_none, ↓r35_0, r35_0, ↓r35_1, r35_1, ↓r35_2, r35_2, ↓r35_3, r35_3, ↓r35_4, r35_4, ↓r35_5, r35_5, ↓r35_6, r35_6, ↓r35_7, r35_7, ↓r35_8, r35_8, J35_8_0, J35_8_1, J35_8_2, ↓r35_9, r35_9, ↓r35_10, r35_10, ↓r35_11, r35_11, ↓r35_12, r35_12, ↓r35_13, r35_13, ↓r35_14, r35_14, ↓r35_15, r35_15, ↓r35_16, r35_16, ↓r35_17, r35_17, ↓r35_18, r35_18, ↓r35_19a, r35_19a, ↓r35_19b, r35_19b, ck, neq27, c0]
  rw [hd] at ck
  have z0 : decide ((0 : Int) ≠ 0) = false := by decide
  have wg : IntKind.i64.wrap ((w.gen : Int) + 1) = ((w.gen + 1 : Nat) : Int) := by rw [wrap_i64] <;> omega
  have bk := bounds_ok L.dsk hn (w.gen + 1) (by omega) false (k + 1)
  have htl := toOf_le w.d.lasts.length (w.gen + 1) hn
  have hft : fromOf w.d.lasts.length (w.gen + 1) ≤ toOf w.d.lasts.length (w.gen + 1) := by unfold toOf; omega
  simp only [Bool.false_eq_true, if_false]
  generalize fromOf w.d.lasts.length (w.gen + 1) = F at *
  generalize toOf w.d.lasts.length (w.gen + 1) = T at *
  rw [hd] at hv
  by_cases q1 : 8192 < b.length
  · have e1 : decide ((8192 : Int) < (b.length : Nat)) = true := decide_eq_true (by omega)
    rw [if_pos q1]
    refine ⟨h, exFn_of e35 ?_, L, Keep.refl _ _⟩
    rw [fnK, n0, s35]
    simp -implicitDefEqProofs only [↓runK_seq, runK_seq, ↓runK_cond, runK_cond, ↓runK_block, runK_block, ↓runK_loop, runK_loop, ↓runK_skip, runK_skip, ↓runK_ret, runK_ret, ↓runK_exit, runK_exit, ↓seqE_n, seqE_n, ↓seqE_e, seqE_e, ↓seqE_r, seqE_r, ↓blkE_n, blkE_n, ↓blkE_e, blkE_e, ↓blkE_r, blkE_r, ↓retK_n, retK_n, ↓retK_r, retK_r, ↓aCall_fn, aCall_fn, ↓bnd_s, bnd_s, ↓bnd2_s, bnd2_s, ↓onB_t, onB_t, ↓onB_f, onB_f, ↓onG_tt, onG_tt, ↓onG_tf, onG_tf, ↓onG_ft, onG_ft, ↓onG_ff, onG_ff, ↓onG_s, onG_s, ↓onT_t, onT_t, ↓aPick_t, aPick_t, ↓aPick_f, aPick_f, decide_true, decide_false, st_tmp, results1, results2, List.lookup_cons, List.lookup_nil, Nat.reduceBEq, Bool.false_eq_true, ↓reduceIte, BEq.rfl, Nat.reduceLT, Option.getD_some, Option.getD_none, ↓r35_0, r35_0, ↓r35_1, r35_1, ↓r35_2, r35_2, ↓r35_3, r35_3, ↓r35_4, r35_4, ↓r35_5, r35_5, ↓r35_6, r35_6, ↓r35_7, r35_7, ↓r35_8, r35_8, J35_8_0, J35_8_1, J35_8_2, ↓r35_9, r35_9, ↓r35_10, r35_10, ↓r35_11, r35_11, ↓r35_12, r35_12, ↓r35_13, r35_13, ↓r35_14, r35_14, ↓r35_15, r35_15, ↓r35_16, r35_16, ↓r35_17, r35_17, ↓r35_18, r35_18, ↓r35_19a, r35_19a, ↓r35_19b, r35_19b, ck, neq27, z0, lp_chk, lpf0, lpf1, lpf2, lld0 hv, lld1 hv, bin_add, wg, bk, ext0, ext1, hx.len, bin_gtr, e1]
  have e1 : decide ((8192 : Int) < (b.length : Nat)) = false := decide_eq_false (by omega)
  rw [if_neg q1]
  have sk := size_ok (b.length : Int) (by omega) false h (k + 2)
  have wf : IntKind.i64.wrap ((T : Int) - (F : Int)) = (T : Int) - F := by rw [wrap_i64] <;> omega
  by_cases q2 : 2147483647 < w.gen + 1
  · have e2 : decide ((2147483647 : Int) < ((w.gen + 1 : Nat) : Int)) = true := decide_eq_true (by omega)
    rw [if_pos (.inl q2)]
    refine ⟨h, exFn_of e35 ?_, L, Keep.refl _ _⟩
    rw [fnK, n0, s35]
    simp -implicitDefEqProofs only [↓runK_seq, runK_seq, ↓runK_cond, runK_cond, ↓runK_block, runK_block, ↓runK_loop, runK_loop, ↓runK_skip, runK_skip, ↓runK_ret, runK_ret, ↓runK_exit, runK_exit, ↓seqE_n, seqE_n, ↓seqE_e, seqE_e, ↓seqE_r, seqE_r, ↓blkE_n, blkE_n, ↓blkE_e, blkE_e, ↓blkE_r, blkE_r, ↓retK_n, retK_n, ↓retK_r, retK_r, ↓aCall_fn, aCall_fn, ↓bnd_s, bnd_s, ↓bnd2_s, bnd2_s, ↓onB_t, onB_t, ↓onB_f, onB_f, ↓onG_tt, onG_tt, ↓onG_tf, onG_tf, ↓onG_ft, onG_ft, ↓onG_ff, onG_ff, ↓onG_s, onG_s, ↓onT_t, onT_t, ↓aPick_t, aPick_t, ↓aPick_f, aPick_f, decide_true, decide_false, st_tmp, results1, results2, List.lookup_cons, List.lookup_nil, Nat.reduceBEq, Bool.false_eq_true, ↓reduceIte, BEq.rfl, Nat.reduceLT, Option.getD_some, Option.getD_none, ↓r35_0, r35_0, ↓r35_1, r35_1, ↓r35_2, r35_2, ↓r35_3, r35_3, ↓r35_4, r35_4, ↓r35_5, r35_5, ↓r35_6, r35_6, ↓r35_7, r35_7, ↓r35_8, r35_8, J35_8_0, J35_8_1, J35_8_2, ↓r35_9, r35_9, ↓r35_10, r35_10, ↓r35_11, r35_11, ↓r35_12, r35_12, ↓r35_13, r35_13, ↓r35_14, r35_14, ↓r35_15, r35_15, ↓r35_16, r35_16, ↓r35_17, r35_17, ↓r35_18, r35_18, ↓r35_19a, r35_19a, ↓r35_19b, r35_19b, ck, neq27, z0, lp_chk, lpf0, lpf1, lpf2, lld0 hv, lld1 hv, bin_add, wg, bk, ext0, ext1, hx.len, bin_gtr, e1, e2]
  have e2 : decide ((2147483647 : Int) < ((w.gen + 1 : Nat) : Int)) = false := decide_eq_false (by omega)
  by_cases q3 : (T : Int) - F < sizeOf b.length
  · have e3 : decide ((T : Int) - F < sizeOf b.length) = true := decide_eq_true q3
    rw [if_pos (.inr q3)]
    refine ⟨h, exFn_of e35 ?_, L, Keep.refl _ _⟩
    rw [fnK, n0, s35]
    simp -implicitDefEqProofs only [↓runK_seq, runK_seq, ↓runK_cond, runK_cond, ↓runK_block, runK_block, ↓runK_loop, runK_loop, ↓runK_skip, runK_skip, ↓runK_ret, runK_ret, ↓runK_exit, runK_exit, ↓seqE_n, seqE_n, ↓seqE_e, seqE_e, ↓seqE_r, seqE_r, ↓blkE_n, blkE_n, ↓blkE_e, blkE_e, ↓blkE_r, blkE_r, ↓retK_n, retK_n, ↓retK_r, retK_r, ↓aCall_fn, aCall_fn, ↓bnd_s, bnd_s, ↓bnd2_s, bnd2_s, ↓onB_t, onB_t, ↓onB_f, onB_f, ↓onG_tt, onG_tt, ↓onG_tf, onG_tf, ↓onG_ft, onG_ft, ↓onG_ff, onG_ff, ↓onG_s, onG_s, ↓onT_t, onT_t, ↓aPick_t, aPick_t, ↓aPick_f, aPick_f, decide_true, decide_false, st_tmp, results1, results2, List.lookup_cons, List.lookup_nil, Nat.reduceBEq, Bool.false_eq_true, ↓reduceIte, BEq.rfl, Nat.reduceLT, Option.getD_some, Option.getD_none, ↓r35_0, r35_0, ↓r35_1, r35_1, ↓r35_2, r35_2, ↓r35_3, r35_3, ↓r35_4, r35_4, ↓r35_5, r35_5, ↓r35_6, r35_6, ↓r35_7, r35_7, ↓r35_8, r35_8, J35_8_0, J35_8_1, J35_8_2, ↓r35_9, r35_9, ↓r35_10, r35_10, ↓r35_11, r35_11, ↓r35_12, r35_12, ↓r35_13, r35_13, ↓r35_14, r35_14, ↓r35_15, r35_15, ↓r35_16, r35_16, ↓r35_17, r35_17, ↓r35_18, r35_18, ↓r35_19a, r35_19a, ↓r35_19b, r35_19b, ck, neq27, z0, lp_chk, lpf0, lpf1, lpf2, lld0 hv, lld1 hv, bin_add, wg, bk, ext0, ext1, hx.len, bin_gtr, e1, e2, sk, bin_sub, wf, e3]
  have e3 : decide ((T : Int) - F < sizeOf b.length) = false := decide_eq_false q3
  rw [if_neg (by rintro (h | h); exact q2 h; exact q3 h)]
  have upd : Up (fun i => S i ∧ i ≠ q) h := fun i hi => ⟨up i hi, by omega⟩
  obtain ⟨h1, l1, D1, k1⟩ := clean_ok L.dsk upd (by omega) s.fuse F T (k + 2) (by omega)
  obtain ⟨s1, sl1, -, -⟩ := clean_st (a := (F : Int)) (e := (T : Int)) s
  generalize w.d.clean (F : Int) (T : Int) = C at *
  obtain ⟨ce, cd⟩ := C
  simp only at *
  have few1 := s1.few
  have up1 := upd.keep k1
  have hv1 : h1[q]? = some (lv p w.gen w.pos false) := by rw [k1.2 q (fun h => h.2 rfl)]; exact hv
  have kk1 := k1.mono (U := S) fun i hi => hi.1
  by_cases z1 : ce = 0
  case neg =>
    obtain ⟨L3, k3⟩ := Lsk.set (w := ⟨cd, w.gen, w.pos, false⟩) L.hq hv1 D1 w.gen w.pos (false || decide (ce = 4))
    have dk := done_ok hv1 ce false (k + 2)
    have c1 : decide (ce ≠ 0) = true := decide_eq_true z1
    rw [if_pos z1]
    refine ⟨_, exFn_of e35 ?_, L3, kk1.trans k3⟩
    rw [fnK, n0, s35]
    simp -implicitDefEqProofs only [↓runK_seq, runK_seq, ↓runK_cond, runK_cond, ↓runK_block, runK_block, ↓runK_loop, runK_loop, ↓runK_skip, runK_skip, ↓runK_ret, runK_ret, ↓runK_exit, runK_exit, ↓seqE_n, seqE_n, ↓seqE_e, seqE_e, ↓seqE_r, seqE_r, ↓blkE_n, blkE_n, ↓blkE_e, blkE_e, ↓blkE_r, blkE_r, ↓retK_n, retK_n, ↓retK_r, retK_r, ↓aCall_fn, aCall_fn, ↓bnd_s, bnd_s, ↓bnd2_s, bnd2_s, ↓onB_t, onB_t, ↓onB_f, onB_f, ↓onG_tt, onG_tt, ↓onG_tf, onG_tf, ↓onG_ft, onG_ft, ↓onG_ff, onG_ff, ↓onG_s, onG_s, ↓onT_t, onT_t, ↓aPick_t, aPick_t, ↓aPick_f, aPick_f, decide_true, decide_false, st_tmp, results1, results2, List.lookup_cons, List.lookup_nil, Nat.reduceBEq, Bool.false_eq_true, ↓reduceIte, BEq.rfl, Nat.reduceLT, Option.getD_some, Option.getD_none, ↓r35_0, r35_0, ↓r35_1, r35_1, ↓r35_2, r35_2, ↓r35_3, r35_3, ↓r35_4, r35_4, ↓r35_5, r35_5, ↓r35_6, r35_6, ↓r35_7, r35_7, ↓r35_8, r35_8, J35_8_0, J35_8_1, J35_8_2, ↓r35_9, r35_9, ↓r35_10, r35_10, ↓r35_11, r35_11, ↓r35_12, r35_12, ↓r35_13, r35_13, ↓r35_14, r35_14, ↓r35_15, r35_15, ↓r35_16, r35_16, ↓r35_17, r35_17, ↓r35_18, r35_18, ↓r35_19a, r35_19a, ↓r35_19b, r35_19b, ck, neq27, z0, lp_chk, lpf0, lpf1, lpf2, lld0 hv, lld1 hv, bin_add, wg, bk, ext0, ext1, hx.len, bin_gtr, e1, e2, sk, bin_sub, wf, e3, l1, c1, dk]
  subst z1
  rw [if_neg (by decide)]
  obtain ⟨h2, l2, D2, k2⟩ := lay_ok D1 up1 (by omega) s1.fuse F T ((w.gen + 1 : Nat) : Int) (by omega) hx hb (k + 2) (by omega)
  obtain ⟨s2, sl2, -, -⟩ := lay_st (at' := (F : Int)) (e := (T : Int)) (gen := ((w.gen + 1 : Nat) : Int)) (b := b) s1
  generalize cd.lay (F : Int) (T : Int) ((w.gen + 1 : Nat) : Int) b = R at *
  obtain ⟨⟨nx, le⟩, ld⟩ := R
  simp only at *
  have few2 := s2.few
  have up2 := up1.keep k2
  have hv2 : h2[q]? = some (lv p w.gen w.pos false) := by rw [k2.2 q (fun h => h.2 rfl)]; exact hv1
  have kk2 := kk1.trans (k2.mono (U := S) fun i hi => hi.1)
  by_cases z2 : le = 0
  case neg =>
    obtain ⟨L3, k3⟩ := Lsk.set (w := ⟨ld, w.gen, w.pos, false⟩) L.hq hv2 D2 w.gen w.pos (false || decide (le = 4))
    have dk := done_ok hv2 le false (k + 2)
    have c1 : decide (le ≠ 0) = true := decide_eq_true z2
    rw [if_pos z2]
    refine ⟨_, exFn_of e35 ?_, L3, kk2.trans k3⟩
    rw [fnK, n0, s35]
    simp -implicitDefEqProofs only [↓runK_seq, runK_seq, ↓runK_cond, runK_cond, ↓runK_block, runK_block, ↓runK_loop, runK_loop, ↓runK_skip, runK_skip, ↓runK_ret, runK_ret, ↓runK_exit, runK_exit, ↓seqE_n, seqE_n, ↓seqE_e, seqE_e, ↓seqE_r, seqE_r, ↓blkE_n, blkE_n, ↓blkE_e, blkE_e, ↓blkE_r, blkE_r, ↓retK_n, retK_n, ↓retK_r, retK_r, ↓aCall_fn, aCall_fn, ↓bnd_s, bnd_s, ↓bnd2_s, bnd2_s, ↓onB_t, onB_t, ↓onB_f, onB_f, ↓onG_tt, onG_tt, ↓onG_tf, onG_tf, ↓onG_ft, onG_ft, ↓onG_ff, onG_ff, ↓onG_s, onG_s, ↓onT_t, onT_t, ↓aPick_t, aPick_t, ↓aPick_f, aPick_f, decide_true, decide_false, st_tmp, results1, results2, List.lookup_cons, List.lookup_nil, Nat.reduceBEq, Bool.false_eq_true, ↓reduceIte, BEq.rfl, Nat.reduceLT, Option.getD_some, Option.getD_none, ↓r35_0, r35_0, ↓r35_1, r35_1, ↓r35_2, r35_2, ↓r35_3, r35_3, ↓r35_4, r35_4, ↓r35_5, r35_5, ↓r35_6, r35_6, ↓r35_7, r35_7, ↓r35_8, r35_8, J35_8_0, J35_8_1, J35_8_2, ↓r35_9, r35_9, ↓r35_10, r35_10, ↓r35_11, r35_11, ↓r35_12, r35_12, ↓r35_13, r35_13, ↓r35_14, r35_14, ↓r35_15, r35_15, ↓r35_16, r35_16, ↓r35_17, r35_17, ↓r35_18, r35_18, ↓r35_19a, r35_19a, ↓r35_19b, r35_19b, ck, neq27, z0, lp_chk, lpf0, lpf1, lpf2, lld0 hv, lld0 hv1, lld1 hv, bin_add, wg, bk, ext0, ext1, hx.len, bin_gtr, e1, e2, sk, bin_sub, wf, e3, l1, l2, c1, dk]
  subst z2
  rw [if_neg (by decide)]
  obtain ⟨h3, l3, D3, k3⟩ := install_ok D2 up2 (by omega) s2.fuse (w.gen + 1) (by omega) (k + 2) (by omega)
  generalize ld.install (w.gen + 1) = I at *
  obtain ⟨ie, id⟩ := I
  simp only at *
  have hv3 : h3[q]? = some (lv p w.gen w.pos false) := by rw [k3.2 q (fun h => h.2 rfl)]; exact hv2
  have kk3 := kk2.trans (k3.mono (U := S) fun i hi => hi.1)
  by_cases z3 : ie = 0
  · subst z3
    obtain ⟨L4, k4⟩ := Lsk.set (w := ⟨id, w.gen, w.pos, false⟩) L.hq hv3 D3 (w.gen + 1) w.pos false
    obtain ⟨L5, k5⟩ := Lsk.set (w := ⟨id, w.gen + 1, w.pos, false⟩) L.hq L4.var L4.dsk (w.gen + 1) nx false
    obtain ⟨L6, k6⟩ := Lsk.set (w := ⟨id, w.gen + 1, nx, false⟩) L.hq L5.var L5.dsk (w.gen + 1) nx (false || decide ((0 : Int) = 4))
    have dk := done_ok L5.var 0 false (k + 2)
    have c1 : decide ((0 : Int) = 0) = true := by decide
    rw [if_pos rfl]
    refine ⟨_, exFn_of e35 ?_, L6, ((kk3.trans k4).trans k5).trans k6⟩
    rw [fnK, n0, s35]
    simp -implicitDefEqProofs only [↓runK_seq, runK_seq, ↓runK_cond, runK_cond, ↓runK_block, runK_block, ↓runK_loop, runK_loop, ↓runK_skip, runK_skip, ↓runK_ret, runK_ret, ↓runK_exit, runK_exit, ↓seqE_n, seqE_n, ↓seqE_e, seqE_e, ↓seqE_r, seqE_r, ↓blkE_n, blkE_n, ↓blkE_e, blkE_e, ↓blkE_r, blkE_r, ↓retK_n, retK_n, ↓retK_r, retK_r, ↓aCall_fn, aCall_fn, ↓bnd_s, bnd_s, ↓bnd2_s, bnd2_s, ↓onB_t, onB_t, ↓onB_f, onB_f, ↓onG_tt, onG_tt, ↓onG_tf, onG_tf, ↓onG_ft, onG_ft, ↓onG_ff, onG_ff, ↓onG_s, onG_s, ↓onT_t, onT_t, ↓aPick_t, aPick_t, ↓aPick_f, aPick_f, decide_true, decide_false, st_tmp, results1, results2, List.lookup_cons, List.lookup_nil, Nat.reduceBEq, Bool.false_eq_true, ↓reduceIte, BEq.rfl, Nat.reduceLT, Option.getD_some, Option.getD_none, ↓r35_0, r35_0, ↓r35_1, r35_1, ↓r35_2, r35_2, ↓r35_3, r35_3, ↓r35_4, r35_4, ↓r35_5, r35_5, ↓r35_6, r35_6, ↓r35_7, r35_7, ↓r35_8, r35_8, J35_8_0, J35_8_1, J35_8_2, ↓r35_9, r35_9, ↓r35_10, r35_10, ↓r35_11, r35_11, ↓r35_12, r35_12, ↓r35_13, r35_13, ↓r35_14, r35_14, ↓r35_15, r35_15, ↓r35_16, r35_16, ↓r35_17, r35_17, ↓r35_18, r35_18, ↓r35_19a, r35_19a, ↓r35_19b, r35_19b, ck, neq27, z0, lp_chk, lpf0, lpf1, lpf2, lld0 hv, lld0 hv1, lld0 hv2, lld1 hv, bin_add, wg, bk, ext0, ext1, hx.len, bin_gtr, e1, e2, sk, bin_sub, wf, e3, l1, l2, l3, bin_eql, c1, lst1 hv3, lst2 L4.var, dk]
  · obtain ⟨L4, k4⟩ := Lsk.set (w := ⟨id, w.gen, w.pos, false⟩) L.hq hv3 D3 w.gen w.pos (false || decide (ie = 4))
    have dk := done_ok hv3 ie false (k + 2)
    have c1 : decide (ie = 0) = false := decide_eq_false z3
    rw [if_neg z3]
    refine ⟨_, exFn_of e35 ?_, L4, kk3.trans k4⟩
    rw [fnK, n0, s35]
    simp -implicitDefEqProofs only [↓runK_seq, runK_seq, ↓runK_cond, runK_cond, ↓runK_block, runK_block, ↓runK_loop, runK_loop, ↓runK_skip, runK_skip, ↓runK_ret, runK_ret, ↓runK_exit, runK_exit, ↓seqE_n, seqE_n, ↓seqE_e, seqE_e, ↓seqE_r, seqE_r, ↓blkE_n, blkE_n, ↓blkE_e, blkE_e, ↓blkE_r, blkE_r, ↓retK_n, retK_n, ↓retK_r, retK_r, ↓aCall_fn, aCall_fn, ↓bnd_s, bnd_s, ↓bnd2_s, bnd2_s, ↓onB_t, onB_t, ↓onB_f, onB_f, ↓onG_tt, onG_tt, ↓onG_tf, onG_tf, ↓onG_ft, onG_ft, ↓onG_ff, onG_ff, ↓onG_s, onG_s, ↓onT_t, onT_t, ↓aPick_t, aPick_t, ↓aPick_f, aPick_f, decide_true, decide_false, st_tmp, results1, results2, List.lookup_cons, List.lookup_nil, Nat.reduceBEq, Bool.false_eq_true, ↓reduceIte, BEq.rfl, Nat.reduceLT, Option.getD_some, Option.getD_none, ↓r35_0, r35_0, ↓r35_1, r35_1, ↓r35_2, r35_2, ↓r35_3, r35_3, ↓r35_4, r35_4, ↓r35_5, r35_5, ↓r35_6, r35_6, ↓r35_7, r35_7, ↓r35_8, r35_8, J35_8_0, J35_8_1, J35_8_2, ↓r35_9, r35_9, ↓r35_10, r35_10, ↓r35_11, r35_11, ↓r35_12, r35_12, ↓r35_13, r35_13, ↓r35_14, r35_14, ↓r35_15, r35_15, ↓r35_16, r35_16, ↓r35_17, r35_17, ↓r35_18, r35_18, ↓r35_19a, r35_19a, ↓r35_19b, r35_19b, ck, neq27, z0, lp_chk, lpf0, lpf1, lpf2, lld0 hv, lld0 hv1, lld0 hv2, lld1 hv, bin_add, wg, bk, ext0, ext1, hx.len, bin_gtr, e1, e2, sk, bin_sub, wf, e3, l1, l2, l3, bin_eql, c1, dk]
end Go.Ax

namespace Go.Ax
open Go Go.Proofs
abbrev zs : List UInt8 := List.replicate 64 0
inductive Ents (l : List (List UInt8)) (gen : Nat) : Nat → List (List UInt8) → Nat → Prop
  | nil {a} : Ents l gen a [] a
  | cons {a b es pos} : b.length ≤ 8192 → (∀ i, i < nOf b → l[a + i]? = (entryOf gen b)[i]?) → Ents l gen (a + nOf b) es pos → Ents l gen a (b :: es) pos
theorem nOf_pos (b : List UInt8) : 1 ≤ nOf b := by have := nOf_eq' b; omega
theorem Ents.le {l : List (List UInt8)} {gen a pos : Nat} {es : List (List UInt8)} (h : Ents l gen a es pos) : a + es.length ≤ pos := by
  induction h with
  | nil => simp
  | @cons a b es pos _ _ _ ih => have := nOf_pos b; simp only [List.length_cons]; omega
theorem Ents.congr {l l' : List (List UInt8)} {gen a pos : Nat} {es : List (List UInt8)} (h : Ents l gen a es pos) (hl : ∀ i, a ≤ i → i < pos → l'[i]? = l[i]?) : Ents l' gen a es pos := by
  induction h with
  | nil => exact .nil
  | @cons a b es pos h1 h2 h3 ih =>
    have hp := nOf_pos b
    have hle := h3.le
    exact .cons h1 (fun i hi => by rw [hl (a + i) (by omega) (by omega)]; exact h2 i hi) (ih fun i h4 h5 => hl i (by omega) h5)
theorem Ents.snoc {l : List (List UInt8)} {gen a pos : Nat} {es : List (List UInt8)} (h : Ents l gen a es pos) {b : List UInt8} (hb : b.length ≤ 8192) (hl : ∀ i, i < nOf b → l[pos + i]? = (entryOf gen b)[i]?) : Ents l gen a (es ++ [b]) (pos + nOf b) := by
  induction h with
  | nil => exact .cons hb hl .nil
  | cons h1 h2 _ ih => exact .cons h1 h2 (ih hl)
theorem Ents.scan {l : List (List UInt8)} {gen a pos : Nat} {es : List (List UInt8)} (h : Ents l gen a es pos) {e : Int} (he : (pos : Int) ≤ e) (hl : pos ≤ l.length) (hz : oneOf l pos e gen = none) :
    ∀ f, l.length + 1 - a ≤ f → 0 < f → scanOf l e gen f a = (es, (pos : Int)) := by
  induction h with
  | nil =>
    intro f _ hf
    obtain ⟨f, rfl⟩ : ∃ j, f = j + 1 := ⟨f - 1, by omega⟩
    exact scanOf_none hz
  | @cons a b es pos h1 h2 h3 ih =>
    intro f hf hf0
    obtain ⟨f, rfl⟩ : ∃ j, f = j + 1 := ⟨f - 1, by omega⟩
    have hp := nOf_pos b
    have hle := h3.le
    have hn1 := nOf_eq b
    have h0 := h2 0 (by omega)
    rw [Nat.add_zero] at h0
    have ho : oneOf l a e gen = some b := one_at l a e gen b h1 (by rw [h0, entryOf_head]) (by omega) (by omega) fun j j1 j2 => by rw [h2 j j2]; exact entryOf_get _ _ _ j1 j2
    rw [scanOf_some ho, ← hn1, show ((a : Int) + (nOf b : Nat)) = ((a + nOf b : Nat) : Int) by omega, ih he hl hz f (by omega) (by omega)]
theorem Ents.scan_blank {l : List (List UInt8)} {gen a pos e : Nat} {es : List (List UInt8)} (h : Ents l gen a es pos) (he : pos ≤ e) (hl : e ≤ l.length) (hz : pos < e → l[pos]? = some zs) :
    scanOf l e gen (l.length + 1) a = (es, (pos : Int)) := by
  refine h.scan (by omega) (by omega) ?_ _ (by omega) (by omega)
  by_cases q : pos < e
  · exact one_blank l pos e gen (hz q)
  · by_cases q2 : pos < l.length
    · exact oneOf_head (List.getElem?_eq_getElem q2) (.inl (by omega))
    · exact oneOf_out (by omega)
theorem pad_super (g : Nat) : pad (superOf g) = be4 (BitVec.ofNat 32 g) ++ (be4 (crc (be4 (BitVec.ofNat 32 g))) ++ List.replicate 56 0) := by
  unfold pad; rw [superOf_length]; simp [superOf]
theorem superGen_eq {c : List UInt8} {n g : Nat} (h : (get4 c).toNat = g) : superGen c n = if (1 ≤ g ∧ g ≤ 2147483647 ∧ g % 2 = n) ∧ superOf g = c.take 8 ∧ (c.drop 8).all (· == 0) = true then g else 0 := by subst h; rfl
theorem super_gen (g : Nat) (h1 : 1 ≤ g) (h2 : g ≤ 2147483647) : superGen (pad (superOf g)) (g % 2) = g := by
  have e0 : get4 (pad (superOf g)) = BitVec.ofNat 32 g := by rw [pad_super, get4_be4]
  have e1 : (BitVec.ofNat 32 g).toNat = g := by simp; omega
  have e2 : (pad (superOf g)).take 8 = superOf g := by rw [pad_super]; rfl
  have e3 : (pad (superOf g)).drop 8 = List.replicate 56 0 := by rw [pad_super]; rfl
  rw [superGen_eq (g := g) (by rw [e0, e1]), e2, e3, if_pos ⟨⟨h1, h2, rfl⟩, rfl, all_zero _⟩]
theorem super_mod (c : List UInt8) (n : Nat) : superGen c n = 0 ∨ superGen c n % 2 = n := by
  unfold superGen
  simp only
  split
  · rename_i h; exact .inr h.1.2.2
  · exact .inl rfl
theorem super_blank (n : Nat) : superGen zs n = 0 := by
  have e0 : get4 zs = 0#32 := by decide
  rw [superGen_eq (g := 0) (by rw [e0]; rfl), if_neg (by omega)]
theorem newest_slot {l : List (List UInt8)} {gen : Nat} (h : newest l = gen) (h1 : 1 ≤ gen) : superGen ((l[gen % 2]?).getD []) (gen % 2) = gen ∧ superGen ((l[(gen + 1) % 2]?).getD []) ((gen + 1) % 2) ≤ gen := by
  unfold newest at h
  have m0 := super_mod ((l[0]?).getD []) 0
  have m1 := super_mod ((l[1]?).getD []) 1
  rcases mod2_cases gen with hm | hm
  · rw [hm, show (gen + 1) % 2 = 1 by omega]; omega
  · rw [hm, show (gen + 1) % 2 = 0 by omega]; omega
theorem newest_of {l : List (List UInt8)} {gen : Nat} (h : superGen ((l[gen % 2]?).getD []) (gen % 2) = gen) (h2 : superGen ((l[(gen + 1) % 2]?).getD []) ((gen + 1) % 2) ≤ gen) : newest l = gen := by
  unfold newest
  rcases mod2_cases gen with hm | hm
  · rw [hm] at h; rw [show (gen + 1) % 2 = 1 by omega] at h2; omega
  · rw [hm] at h; rw [show (gen + 1) % 2 = 0 by omega] at h2; omega
theorem newest_congr {l l' : List (List UInt8)} (h0 : l'[0]? = l[0]?) (h1 : l'[1]? = l[1]?) : newest l' = newest l := by unfold newest; rw [h0, h1]
structure Log (l : List (List UInt8)) (gen : Nat) (es : List (List UInt8)) (pos : Nat) : Prop where
  lo : 4 ≤ l.length
  hi : l.length ≤ 1024
  cells : ∀ b ∈ l, b.length = 64
  g1 : 1 ≤ gen
  g2 : gen ≤ 2147483647
  new : newest l = gen
  ents : Ents l gen (fromOf l.length gen) es pos
  le : pos ≤ toOf l.length gen
  rest : ∀ i, pos ≤ i → i < toOf l.length gen → l[i]? = some zs
theorem from_ge (n gen : Nat) : 2 ≤ fromOf n gen := by unfold fromOf; omega
theorem other_region (n gen : Nat) (i : Nat) (h1 : fromOf n gen ≤ i) (h2 : i < toOf n gen) : ¬ (fromOf n (gen + 1) ≤ i ∧ i < toOf n (gen + 1)) := by
  unfold toOf fromOf at *
  rcases mod2_cases gen with hm | hm
  · rw [hm] at h1 h2; rw [show (gen + 1) % 2 = 1 by omega]; omega
  · rw [hm] at h1 h2; rw [show (gen + 1) % 2 = 0 by omega]; omega
theorem cleanLoop_none {d : Dk} : ∀ (m i : Nat) (s : Bool), (∀ j, i ≤ j → j < i + m → d.now[j]? = some zs) → cleanLoop m i s d = (0, s, d) := by
  intro m
  induction m with
  | zero => intro i s _; rfl
  | succ m ih =>
    intro i s h
    rw [cleanLoop_blank (by rw [h i (Nat.le_refl _) (by omega)]; exact all_zero 64)]
    exact ih (i + 1) s fun j h1 h2 => h j (by omega) (by omega)
theorem clean_none {d : Dk} {a e : Nat} (he : e ≤ d.lasts.length) (h : ∀ j, a ≤ j → j < e → d.now[j]? = some zs) : d.clean a e = (0, d) := by
  unfold Dk.clean
  have e1 : (max (a : Int) 0).toNat = a := by omega
  have e2 : (min (e : Int) d.lasts.length - max (a : Int) 0).toNat = e - a := by omega
  rw [e1, e2, cleanLoop_none _ _ _ fun j h1 h2 => h j h1 (by omega)]
  rfl
theorem Log.open {l : List (List UInt8)} {gen pos : Nat} {es : List (List UInt8)} (L : Log l gen es pos) : (Calm l).wopen = (0, ⟨Calm l, gen, pos, false⟩, es) := by
  have h1 := L.lo
  have hto := toOf_le l.length gen (by omega)
  have hg := L.g1
  unfold Dk.wopen
  have hn : newest (Calm l).now = gen := L.new
  have hsc : (Calm l).scan (fromOf l.length gen : Nat) (toOf l.length gen : Nat) gen = (es, (pos : Int)) := L.ents.scan_blank L.le hto fun hp => L.rest pos (Nat.le_refl _) hp
  have hcl : (Calm l).clean (pos : Int) (toOf l.length gen : Nat) = (0, Calm l) := clean_none hto fun j j1 j2 => L.rest j j1 j2
  rw [hn]
  simp only [show ¬ gen = 0 by omega, if_false, ne_eq, not_true_eq_false, show (Calm l).lasts.length = l.length from rfl, hsc, hcl]
theorem laid_entry (l : List (List UInt8)) (a : Nat) (gen : Int) (b : List UInt8) (h : a + nOf b ≤ l.length) (i : Nat) (hi : i < nOf b) : (laid l a gen b)[a + i]? = (entryOf gen b)[i]? := by
  have hp := nOf_pos b
  by_cases h0 : i = 0
  · subst h0; rw [Nat.add_zero, laid_head _ _ _ _ (by omega), entryOf_head]
  · rw [laid_get l a gen b h (a + i) (by omega), if_pos (by omega), entryOf_get _ _ _ (by omega) hi]
    congr 3; omega
theorem laid_other (l : List (List UInt8)) (a : Nat) (gen : Int) (b : List UInt8) (h : a + nOf b ≤ l.length) (i : Nat) (hi : i < a ∨ a + nOf b ≤ i) : (laid l a gen b)[i]? = l[i]? := by
  have hp := nOf_pos b
  rw [laid_get l a gen b h i (by omega), if_neg (by omega)]
theorem laid_cells {l : List (List UInt8)} (hc : ∀ b ∈ l, b.length = 64) (a : Nat) (gen : Int) (b : List UInt8) : ∀ c ∈ laid l a gen b, c.length = 64 := by
  refine land_cells _ _ hc fun w hw => ?_
  rcases List.mem_append.1 hw with hw | hw
  · simp only [parts, List.mem_map] at hw
    obtain ⟨j, -, rfl⟩ := hw
    exact pad_length _ (chunk_length _ _)
  · rw [List.mem_singleton] at hw
    subst hw
    exact pad_length _ (by rw [head16_length]; omega)
theorem Log.append {l : List (List UInt8)} {gen pos : Nat} {es : List (List UInt8)} (L : Log l gen es pos) {b : List UInt8} (hb : b.length ≤ 8192) (hf : pos + nOf b ≤ toOf l.length gen) :
    (Wl.mk (Calm l) gen pos false).append b = (0, ⟨Calm (laid l pos gen b), gen, ((pos + nOf b : Nat) : Int), false⟩) ∧ Log (laid l pos gen b) gen (es ++ [b]) (pos + nOf b) := by
  have h1 := L.lo
  have hto := toOf_le l.length gen (by omega)
  have hg2 := L.g2
  have hn := nOf_eq b
  have hle := L.ents.le
  have hfr := from_ge l.length gen
  have hl : (Calm l).lay (pos : Int) (toOf l.length gen : Nat) gen b = ((((pos + nOf b : Nat) : Int), 0), Calm (laid l pos gen b)) :=
    lay_calm l pos (toOf l.length gen : Nat) gen b hb (by omega) (by omega) (by omega) (by omega)
  constructor
  · unfold Wl.append
    simp only [Bool.false_eq_true, if_false]
    rw [show (Calm l).lasts.length = l.length from rfl, hl]
    rfl
  · have hlen : (laid l pos gen b).length = l.length := laid_length _ _ _ _
    have ho := laid_other l pos gen b (by omega)
    refine ⟨by omega, by have := L.hi; omega, laid_cells L.cells _ _ _, L.g1, L.g2, ?_, ?_, by rw [hlen]; exact hf, fun i i1 i2 => ?_⟩
    · exact (newest_congr (ho 0 (.inl (by omega))) (ho 1 (.inl (by omega)))).trans L.new
    · rw [hlen]
      exact (L.ents.congr fun i _ i2 => ho i (.inl i2)).snoc hb fun i hi => laid_entry l pos gen b (by omega) i hi
    · rw [hlen] at i2
      rw [ho i (.inr i1)]
      exact L.rest i (by omega) i2
def wiped (l : List (List UInt8)) (a e : Nat) : List (List UInt8) := (List.range l.length).map fun i => if a ≤ i ∧ i < e then zs else (l[i]?).getD []
theorem wiped_length (l : List (List UInt8)) (a e : Nat) : (wiped l a e).length = l.length := by simp [wiped]
theorem wiped_in {l : List (List UInt8)} {a e i : Nat} (h1 : a ≤ i) (h2 : i < e) (h3 : i < l.length) : (wiped l a e)[i]? = some zs := by simp [wiped, h1, h2, h3]
theorem wiped_out {l : List (List UInt8)} {a e i : Nat} (h : ¬ (a ≤ i ∧ i < e)) : (wiped l a e)[i]? = l[i]? := by
  by_cases h3 : i < l.length
  · simp [wiped, h, h3]
  · rw [List.getElem?_eq_none (by rw [wiped_length]; omega), List.getElem?_eq_none (by omega)]
theorem clean_calm_loop (l : List (List UInt8)) (hc : ∀ b ∈ l, b.length = 64) : ∀ (m i : Nat) (s : Bool) (ws : List (Nat × List UInt8)), (∀ w ∈ ws, w.2.length = 64) → i + m ≤ l.length → ∃ s' ws', cleanLoop m i s ⟨l, ws, -1, false⟩ = (0, s', ⟨l, ws', -1, false⟩) ∧
    (∀ j, (land l ws')[j]? = if i ≤ j ∧ j < i + m then some zs else (land l ws)[j]?) ∧ (s' = false → s = false ∧ ws' = ws) := by
  intro m
  induction m with
  | zero => intro i s ws _ _; exact ⟨s, ws, rfl, fun j => by rw [if_neg (by omega)], fun h => ⟨h, rfl⟩⟩
  | succ m ih =>
    intro i s ws hw h
    have hnow : (Dk.mk l ws (-1) false).now = land l ws := rfl
    have hlt : i < (land l ws).length := by rw [land_length]; omega
    have hget : (land l ws)[i]? = some (land l ws)[i] := List.getElem?_eq_getElem hlt
    have h64 := land_cells _ _ hc hw _ (List.getElem_mem hlt)
    cases hz : (((land l ws)[i]?).getD []).all (· == 0)
    · have w := calm_write l ws i [] (by omega) (by simp)
      obtain ⟨s', ws', h1, h2, h3⟩ := ih (i + 1) true (ws ++ [(i, pad [])]) (fun w hm => by
        rcases List.mem_append.1 hm with hm | hm
        · exact hw w hm
        · rw [List.mem_singleton] at hm; subst hm; exact pad_length _ (by simp)) (by omega)
      refine ⟨s', ws', ?_, fun j => ?_, fun h => by have := (h3 h).1; cases this⟩
      · rw [cleanLoop_go hz (by rw [w]), w]; exact h1
      · rw [h2, land_snoc]
        by_cases hj : i = j
        · subst hj
          rw [if_neg (by omega), if_pos (by omega), List.getElem?_set_self hlt]
          rfl
        · rw [List.getElem?_set_ne hj]
          by_cases hj2 : i + 1 ≤ j ∧ j < i + 1 + m
          · rw [if_pos hj2, if_pos (by omega)]
          · rw [if_neg hj2, if_neg (by omega)]
    · obtain ⟨s', ws', h1, h2, h3⟩ := ih (i + 1) s ws hw (by omega)
      refine ⟨s', ws', ?_, fun j => ?_, h3⟩
      · rw [cleanLoop_blank hz]; exact h1
      · rw [h2]
        by_cases hj : i = j
        · subst hj
          rw [if_neg (by omega), if_pos (by omega), hget]
          rw [hget] at hz
          simp only [Option.getD_some] at hz
          rw [(blank_iff h64).2 hz]
        · by_cases hj2 : i + 1 ≤ j ∧ j < i + 1 + m
          · rw [if_pos hj2, if_pos (by omega)]
          · rw [if_neg hj2, if_neg (by omega)]
theorem clean_calm {l : List (List UInt8)} (hc : ∀ b ∈ l, b.length = 64) {a e : Nat} (he : e ≤ l.length) : (Calm l).clean a e = (0, Calm (wiped l a e)) := by
  unfold Dk.clean
  have e1 : (max (a : Int) 0).toNat = a := by omega
  have e2 : (min (e : Int) (Calm l).lasts.length - max (a : Int) 0).toNat = e - a := by show (min (e : Int) (l.length : Nat) - max (a : Int) 0).toNat = e - a; omega
  rw [e1, e2]
  by_cases hae : a ≤ e
  case neg =>
    rw [show e - a = 0 by omega, cleanLoop_zero]
    have : wiped l a e = l := by
      apply List.ext_getElem?
      intro i
      rw [wiped_out (by omega)]
    rw [this]
    rfl
  obtain ⟨s', ws', h1, h2, h3⟩ := clean_calm_loop l hc (e - a) a false [] (by simp) (by omega)
  rw [show Calm l = ⟨l, [], -1, false⟩ from rfl, h1]
  have hw : land l ws' = wiped l a e := by
    apply List.ext_getElem?
    intro j
    rw [h2]
    by_cases hj : a ≤ j ∧ j < e
    · rw [if_pos (by omega), wiped_in hj.1 hj.2 (by omega)]
    · rw [if_neg (by omega), wiped_out hj]
      rfl
  cases s'
  · obtain ⟨-, rfl⟩ := h3 rfl
    simp only [ne_eq, not_true_eq_false, if_false, Bool.false_eq_true]
    rw [← hw]
    rfl
  · simp only [ne_eq, not_true_eq_false, if_false, if_true, calm_flush, hw]
theorem wiped_cells {l : List (List UInt8)} (hc : ∀ b ∈ l, b.length = 64) (a e : Nat) : ∀ c ∈ wiped l a e, c.length = 64 := by
  intro c hm
  obtain ⟨i, hi⟩ := List.getElem?_of_mem hm
  by_cases h : a ≤ i ∧ i < e
  · by_cases h3 : i < l.length
    · rw [wiped_in h.1 h.2 h3] at hi; cases hi; simp
    · rw [List.getElem?_eq_none (by rw [wiped_length]; omega)] at hi; cases hi
  · rw [wiped_out h] at hi
    exact hc c (List.mem_of_getElem? hi)
theorem install_calm {l : List (List UInt8)} (h : 2 ≤ l.length) (gen : Nat) : (Calm l).install gen = (0, Calm (l.set (gen % 2) (pad (superOf gen)))) := by
  unfold Dk.install
  rw [show Calm l = ⟨l, [], -1, false⟩ from rfl, calm_write l [] (gen % 2) (superOf gen) (by omega) (by rw [superOf_length]; omega)]
  simp only [ne_eq, not_true_eq_false, if_false, List.nil_append, calm_flush]
  rfl
def pointed (l : List (List UInt8)) (gen : Nat) (b : List UInt8) : List (List UInt8) :=
  (laid (wiped l (fromOf l.length gen) (toOf l.length gen)) (fromOf l.length gen) gen b).set (gen % 2) (pad (superOf gen))
theorem Log.checkpoint {l : List (List UInt8)} {gen pos : Nat} {es : List (List UInt8)} (L : Log l gen es pos) {b : List UInt8} (hb : b.length ≤ 8192) (hg : gen + 1 ≤ 2147483647) (hf : nOf b ≤ halfOf l.length) :
    (Wl.mk (Calm l) gen pos false).checkpoint b = (0, ⟨Calm (pointed l (gen + 1) b), gen + 1, ((fromOf l.length (gen + 1) + nOf b : Nat) : Int), false⟩) ∧
      Log (pointed l (gen + 1) b) (gen + 1) [b] (fromOf l.length (gen + 1) + nOf b) := by
  have h1 := L.lo
  have h2 := L.hi
  have hto := toOf_le l.length (gen + 1) (by omega)
  have hn := nOf_eq b
  have hft : toOf l.length (gen + 1) = fromOf l.length (gen + 1) + halfOf l.length := rfl
  have hfr := from_ge l.length (gen + 1)
  have hcl : (Calm l).clean (fromOf l.length (gen + 1) : Nat) (toOf l.length (gen + 1) : Nat) = (0, Calm (wiped l (fromOf l.length (gen + 1)) (toOf l.length (gen + 1)))) := clean_calm L.cells hto
  have hwl := wiped_length l (fromOf l.length (gen + 1)) (toOf l.length (gen + 1))
  have hwc := wiped_cells L.cells (fromOf l.length (gen + 1)) (toOf l.length (gen + 1))
  have hlay : (Calm (wiped l (fromOf l.length (gen + 1)) (toOf l.length (gen + 1)))).lay (fromOf l.length (gen + 1) : Nat) (toOf l.length (gen + 1) : Nat) ((gen + 1 : Nat) : Int) b =
      ((((fromOf l.length (gen + 1) + nOf b : Nat) : Int), 0), Calm (laid (wiped l (fromOf l.length (gen + 1)) (toOf l.length (gen + 1))) (fromOf l.length (gen + 1)) ((gen + 1 : Nat) : Int) b)) :=
    lay_calm _ _ _ _ b hb (by omega) (by omega) (by omega) (by rw [hwl]; omega)
  have hll : (laid (wiped l (fromOf l.length (gen + 1)) (toOf l.length (gen + 1))) (fromOf l.length (gen + 1)) ((gen + 1 : Nat) : Int) b).length = l.length := by rw [laid_length, hwl]
  have hlo := laid_other (wiped l (fromOf l.length (gen + 1)) (toOf l.length (gen + 1))) (fromOf l.length (gen + 1)) ((gen + 1 : Nat) : Int) b (by omega)
  have hle := laid_entry (wiped l (fromOf l.length (gen + 1)) (toOf l.length (gen + 1))) (fromOf l.length (gen + 1)) ((gen + 1 : Nat) : Int) b (by omega)
  have hlc := laid_cells hwc (fromOf l.length (gen + 1)) ((gen + 1 : Nat) : Int) b
  have hins := install_calm (l := laid (wiped l (fromOf l.length (gen + 1)) (toOf l.length (gen + 1))) (fromOf l.length (gen + 1)) ((gen + 1 : Nat) : Int) b) (by omega) (gen + 1)
  have hm2 : (gen + 1) % 2 < 2 := Nat.mod_lt _ (by decide)
  have hpl : (pointed l (gen + 1) b).length = l.length := by unfold pointed; rw [List.length_set, hll]
  have hp : ∀ i, i ≠ (gen + 1) % 2 → (pointed l (gen + 1) b)[i]? = (laid (wiped l (fromOf l.length (gen + 1)) (toOf l.length (gen + 1))) (fromOf l.length (gen + 1)) ((gen + 1 : Nat) : Int) b)[i]? := fun i hi => by
    unfold pointed; rw [List.getElem?_set_ne (by omega)]
  have hps : (pointed l (gen + 1) b)[(gen + 1) % 2]? = some (pad (superOf (gen + 1))) := by
    unfold pointed; rw [List.getElem?_set_self (by omega)]
  constructor
  · unfold Wl.checkpoint
    simp only [Bool.false_eq_true, if_false, show (Calm l).lasts.length = l.length from rfl]
    rw [if_neg (by omega), if_neg (by omega), hcl]
    simp only [ne_eq, not_true_eq_false, if_false, hlay, hins, if_true]
    rfl
  · refine ⟨by omega, by omega, ?_, by omega, hg, ?_, ?_, by rw [hpl]; omega, fun i i1 i2 => ?_⟩
    · intro c hm
      obtain ⟨i, hi⟩ := List.getElem?_of_mem hm
      by_cases h0 : i = (gen + 1) % 2
      · subst h0; rw [hps] at hi; cases hi; exact pad_length _ (by rw [superOf_length]; omega)
      · rw [hp i h0] at hi; exact hlc c (List.mem_of_getElem? hi)
    · refine newest_of ?_ ?_
      · rw [hps]; exact super_gen (gen + 1) (by omega) hg
      · have hsl := (newest_slot L.new L.g1).1
        rw [show (gen + 1 + 1) % 2 = gen % 2 by omega, hp _ (by omega), hlo _ (.inl (by omega)), wiped_out (by omega), hsl]
        omega
    · rw [hpl]
      exact .cons hb (fun i hi => by rw [hp _ (by omega)]; exact hle i hi) .nil
    · rw [hpl] at i2
      rw [hp i (by omega), hlo i (.inr i1), wiped_in (by omega) i2 (by omega)]
theorem open_blank (n : Nat) (h4 : 4 ≤ n) (hn : n ≤ 1024) : (Calm (List.replicate n zs)).wopen = (0, ⟨Calm ((List.replicate n zs).set 1 (pad (superOf 1))), 1, (fromOf n 1 : Nat), false⟩, []) ∧ Log ((List.replicate n zs).set 1 (pad (superOf 1))) 1 [] (fromOf n 1) := by
  have hto := toOf_le n 1 (by omega)
  have hfr := from_ge n 1
  have hw : wiped (List.replicate n zs) (fromOf n 1) (toOf n 1) = List.replicate n zs := by
    apply List.ext_getElem?
    intro i
    by_cases h : fromOf n 1 ≤ i ∧ i < toOf n 1
    · rw [wiped_in h.1 h.2 (by simp; omega), List.getElem?_replicate, if_pos (by omega)]
    · rw [wiped_out h]
  have hc : ∀ b ∈ List.replicate n zs, b.length = 64 := fun b hb => by rw [(List.mem_replicate.1 hb).2]; simp
  have hcl : (Calm (List.replicate n zs)).clean (fromOf n 1 : Nat) (toOf n 1 : Nat) = (0, Calm (List.replicate n zs)) := by rw [clean_calm hc (by simpa using hto), hw]
  have hnew : newest (Calm (List.replicate n zs)).now = 0 := by
    show newest (List.replicate n zs) = 0
    unfold newest
    rw [List.getElem?_replicate, List.getElem?_replicate, if_pos (by omega), if_pos (by omega)]
    simp only [Option.getD_some, super_blank]
    rfl
  have hfm : (Calm (List.replicate n zs)).format = (0, Calm ((List.replicate n zs).set 1 (pad (superOf 1)))) := by
    unfold Dk.format
    rw [show (Calm (List.replicate n zs)).lasts.length = n by simp [Calm], hcl]
    simp only [ne_eq, not_true_eq_false, if_false]
    exact install_calm (by simp; omega) 1
  have L : Log ((List.replicate n zs).set 1 (pad (superOf 1))) 1 [] (fromOf n 1) := by
    refine ⟨by simp; omega, by simp; omega, ?_, by omega, by omega, ?_, ?_, ?_, fun i i1 i2 => ?_⟩
    · intro c hm
      rcases List.mem_or_eq_of_mem_set hm with hm | rfl
      · exact hc c hm
      · exact pad_length _ (by rw [superOf_length]; omega)
    · refine newest_of ?_ ?_
      · rw [List.getElem?_set_self (by simp; omega)]
        exact super_gen 1 (by omega) (by omega)
      · rw [show (1 + 1) % 2 = 0 from rfl, List.getElem?_set_ne (by omega), List.getElem?_replicate, if_pos (by omega), Option.getD_some, super_blank]
        omega
    · rw [show ((List.replicate n zs).set 1 (pad (superOf 1))).length = n by simp]
      exact .nil
    · rw [show ((List.replicate n zs).set 1 (pad (superOf 1))).length = n by simp]
      unfold toOf; omega
    · rw [show ((List.replicate n zs).set 1 (pad (superOf 1))).length = n by simp] at i2
      rw [List.getElem?_set_ne (by omega), List.getElem?_replicate, if_pos (by omega)]
  refine ⟨?_, L⟩
  have hll : ((List.replicate n zs).set 1 (pad (superOf 1))).length = n := by simp
  have hsc : (Calm ((List.replicate n zs).set 1 (pad (superOf 1)))).scan (fromOf n 1 : Nat) (toOf n 1 : Nat) 1 = ([], ((fromOf n 1 : Nat) : Int)) := by
    have := L.ents.scan_blank (e := toOf n 1) (by unfold toOf; omega) (by rw [hll]; omega) fun hp => L.rest _ (Nat.le_refl _) (by rw [hll]; exact hp)
    rw [hll] at this
    unfold Dk.scan
    rw [show (Calm ((List.replicate n zs).set 1 (pad (superOf 1)))).lasts.length = n from hll]
    exact this
  have hcl2 : (Calm ((List.replicate n zs).set 1 (pad (superOf 1)))).clean (fromOf n 1 : Nat) (toOf n 1 : Nat) = (0, Calm ((List.replicate n zs).set 1 (pad (superOf 1)))) :=
    clean_none (by show _ ≤ ((List.replicate n zs).set 1 (pad (superOf 1))).length; omega) fun j j1 j2 => L.rest j j1 (by rw [hll]; exact j2)
  unfold Dk.wopen
  rw [hnew]
  simp only [if_true, hfm, ne_eq, not_true_eq_false, if_false, show (Calm (List.replicate n zs)).lasts.length = n by simp [Calm]]
  rw [show ((1 : Nat) : Int) = 1 from rfl, hsc]
  simp only [hcl2, not_true_eq_false, if_false]
end Go.Ax

set_option linter.unusedVariables false
namespace Go.Ax
open Go Go.Proofs
noncomputable def O36 (i : Nat) : Array Oper := opsOf i (bodyOf Try.f36)
theorem s36 : bodyOf Try.f36 = (.seq (.region 0 (O36 0) false) (.seq (.region 1 (O36 1) false) (.seq (.region 2 (O36 2) false) (.seq (.region 3 (O36 3) false) (.seq (.region 4 (O36 4) false) (.seq (.region 5 (O36 5) false) .ret)))))) := by kernel_rfl
theorem e36 : E0 36 = some ⟨58, [0], bodyOf Try.f36⟩ := by kernel_rfl
theorem r36_0 {β : Type} (call : CallF) (md : Bool) (n : Nat) (k : Ex → List AV → Heap → Option β) (h : Heap) :
    runK C0 call md 36 n (.region 0 (O36 0) false) k (st 58 []) h =
    k .normal (st 58 []) h
  := by kernel_rfl
theorem r36_1 {β : Type} (call : CallF) (md : Bool) (n : Nat) (k : Ex → List AV → Heap → Option β) (h : Heap) :
    runK C0 call md 36 n (.region 1 (O36 1) false) k (st 58 []) h =
    bnd2 (aCall call md (.fn (.func 13) []) [(.int .i64 40)] h) fun v1 h2 =>
    k .normal (st 58 [(1, v1)]) h2
  := by kernel_rfl
theorem r36_2 {β : Type} (call : CallF) (md : Bool) (n : Nat) (k : Ex → List AV → Heap → Option β) (x1 : AV) (h : Heap) :
    runK C0 call md 36 n (.region 2 (O36 2) false) k (st 58 [(1, x1)]) h =
    bnd2 (aCall call md (.fn (.func 31) []) [x1] h) fun v1 h2 =>
    bnd (aExtract v1 0) fun v3 =>
    bnd (aExtract v1 1) fun v4 =>
    bnd (aExtract v1 2) fun v5 =>
    k .normal (st 58 [(1, x1), (2, v3), (4, v5)]) h2
  := by kernel_rfl
theorem r36_3 {β : Type} (call : CallF) (md : Bool) (n : Nat) (k : Ex → List AV → Heap → Option β) (x1 x2 x4 : AV) (h : Heap) :
    runK C0 call md 36 n (.region 3 (O36 3) false) k (st 58 [(1, x1), (2, x2), (4, x4)]) h =
    bnd2 (aRowLit tab 22 2 [(0, (.int .u8 104)), (1, (.int .u8 105))] h) fun v1 h2 =>
    bnd (aConv tab 22 22 v1 h2) fun v3 =>
    bnd2 (freezeA v3 h2) fun v4 h5 =>
    bnd2 (aCall call md (.fn (.func 33) []) [x2, v4] h5) fun v6 h7 =>
    k .normal (st 58 [(1, x1), (2, x2), (4, x4), (5, v6)]) h7
  := by kernel_rfl
theorem r36_4 {β : Type} (call : CallF) (md : Bool) (n : Nat) (k : Ex → List AV → Heap → Option β) (x1 x2 x4 x5 : AV) (h : Heap) :
    runK C0 call md 36 n (.region 4 (O36 4) false) k (st 58 [(1, x1), (2, x2), (4, x4), (5, x5)]) h =
    bnd2 (aCall call md (.fn (.func 31) []) [x1] h) fun v1 h2 =>
    bnd (aExtract v1 0) fun v3 =>
    bnd (aExtract v1 1) fun v4 =>
    bnd (aExtract v1 2) fun v5 =>
    k .normal (st 58 [(2, x2), (4, x4), (5, x5), (7, v4), (8, v5)]) h2
  := by kernel_rfl
def J36_5_12 {β : Type} (call : CallF) (md : Bool) (k : Ex → List AV → Heap → Option β) (x53 x56 : AV) (h : Heap) : Option β :=
    bnd (aPick x53 x56 (.bool false)) fun v1 =>
    k .normal (st 58 [(0, v1)]) h
theorem j36_5_12 {β : Type} (call : CallF) (md : Bool) (k : Ex → List AV → Heap → Option β) (x2 x4 x5 x7 x8 x26 x27 x28 x29 x30 x31 x32 x33 x34 x35 x36 x37 x38 x39 x40 x41 x42 x43 x44 x45 x46 x47 x48 x49 x50 x51 x52 x53 x54 x55 x56 : AV) (h : Heap) :
    opsK C0 call md 36 (O36 5) ((O36 5).toList.drop 31) (st 58 [(2, x2), (4, x4), (5, x5), (7, x7), (8, x8), (26, x26), (27, x27), (28, x28), (29, x29), (30, x30), (31, x31), (32, x32), (33, x33), (34, x34), (35, x35), (36, x36), (37, x37), (38, x38), (39, x39), (40, x40), (41, x41), (42, x42), (43, x43), (44, x44), (45, x45), (46, x46), (47, x47), (48, x48), (49, x49), (50, x50), (51, x51), (52, x52), (53, x53), (54, x54), (55, x55), (56, x56)]) h (fun tm h => k .normal (clr (C0.keep 36 5) tm) h) = J36_5_12 call md k x53 x56 h := by kernel_rfl
def J36_5_11 {β : Type} (call : CallF) (md : Bool) (k : Ex → List AV → Heap → Option β) (x2 x53 : AV) (h : Heap) : Option β :=
    onG true x53 (
      bnd2 (aCall call md (.fn (.func 34) []) [x2] h) fun v3 h4 =>
      bnd (aBinC tab .eql 3 v3 (.int .i64 2) true) fun v5 =>
      J36_5_12 call md k x53 v5 h4) (
      J36_5_12 call md k x53 .skip h)
theorem g36_5_11 {β : Type} (call : CallF) (md : Bool) (kk : List AV → Heap → Option β) (x2 x4 x5 x7 x8 x26 x27 x28 x29 x30 x31 x32 x33 x34 x35 x36 x37 x38 x39 x40 x41 x42 x43 x44 x45 x46 x47 x48 x49 x50 x51 x52 x53 : AV) (h : Heap) :
    opsK C0 call md 36 (O36 5) (((O36 5).toList.drop 28).take 3) (st 58 [(2, x2), (4, x4), (5, x5), (7, x7), (8, x8), (26, x26), (27, x27), (28, x28), (29, x29), (30, x30), (31, x31), (32, x32), (33, x33), (34, x34), (35, x35), (36, x36), (37, x37), (38, x38), (39, x39), (40, x40), (41, x41), (42, x42), (43, x43), (44, x44), (45, x45), (46, x46), (47, x47), (48, x48), (49, x49), (50, x50), (51, x51), (52, x52), (53, x53)]) h kk =
    onG true x53 (
      bnd2 (aCall call md (.fn (.func 34) []) [x2] h) fun v6 h7 =>
      bnd (aBinC tab .eql 3 v6 (.int .i64 2) true) fun v8 =>
      kk (st 58 [(2, x2), (4, x4), (5, x5), (7, x7), (8, x8), (26, x26), (27, x27), (28, x28), (29, x29), (30, x30), (31, x31), (32, x32), (33, x33), (34, x34), (35, x35), (36, x36), (37, x37), (38, x38), (39, x39), (40, x40), (41, x41), (42, x42), (43, x43), (44, x44), (45, x45), (46, x46), (47, x47), (48, x48), (49, x49), (50, x50), (51, x51), (52, x52), (53, x53), (54, x2), (55, v6), (56, v8)]) h7) (
      kk (st 58 [(2, x2), (4, x4), (5, x5), (7, x7), (8, x8), (26, x26), (27, x27), (28, x28), (29, x29), (30, x30), (31, x31), (32, x32), (33, x33), (34, x34), (35, x35), (36, x36), (37, x37), (38, x38), (39, x39), (40, x40), (41, x41), (42, x42), (43, x43), (44, x44), (45, x45), (46, x46), (47, x47), (48, x48), (49, x49), (50, x50), (51, x51), (52, x52), (53, x53), (54, .skip), (55, .skip), (56, .skip)]) h)
  := by cases x53 with | bool b => (cases b <;> kernel_rfl) | _ => kernel_rfl
theorem j36_5_11 {β : Type} (call : CallF) (md : Bool) (k : Ex → List AV → Heap → Option β) (x2 x4 x5 x7 x8 x26 x27 x28 x29 x30 x31 x32 x33 x34 x35 x36 x37 x38 x39 x40 x41 x42 x43 x44 x45 x46 x47 x48 x49 x50 x51 x52 x53 : AV) (h : Heap) :
    opsK C0 call md 36 (O36 5) ((O36 5).toList.drop 28) (st 58 [(2, x2), (4, x4), (5, x5), (7, x7), (8, x8), (26, x26), (27, x27), (28, x28), (29, x29), (30, x30), (31, x31), (32, x32), (33, x33), (34, x34), (35, x35), (36, x36), (37, x37), (38, x38), (39, x39), (40, x40), (41, x41), (42, x42), (43, x43), (44, x44), (45, x45), (46, x46), (47, x47), (48, x48), (49, x49), (50, x50), (51, x51), (52, x52), (53, x53)]) h (fun tm h => k .normal (clr (C0.keep 36 5) tm) h) = J36_5_11 call md k x2 x53 h := by
  have e : ((O36 5).toList.drop 28) = ((O36 5).toList.drop 28).take 3 ++ (O36 5).toList.drop 31 := by kernel_rfl
  rw [show opsK C0 call md 36 (O36 5) ((O36 5).toList.drop 28) = opsK C0 call md 36 (O36 5) (((O36 5).toList.drop 28).take 3 ++ (O36 5).toList.drop 31) from congrArg _ e]
  rw [opsK_append, g36_5_11]
  simp only [j36_5_12]
  rfl
def J36_5_10 {β : Type} (call : CallF) (md : Bool) (k : Ex → List AV → Heap → Option β) (x2 x48 x51 : AV) (h : Heap) : Option β :=
    bnd (aPick x48 x51 (.bool false)) fun v9 =>
    J36_5_11 call md k x2 v9 h
theorem g36_5_10 {β : Type} (call : CallF) (md : Bool) (kk : List AV → Heap → Option β) (x2 x4 x5 x7 x8 x26 x27 x28 x29 x30 x31 x32 x33 x34 x35 x36 x37 x38 x39 x40 x41 x42 x43 x44 x45 x46 x47 x48 x49 x50 x51 : AV) (h : Heap) :
    opsK C0 call md 36 (O36 5) (((O36 5).toList.drop 26).take 2) (st 58 [(2, x2), (4, x4), (5, x5), (7, x7), (8, x8), (26, x26), (27, x27), (28, x28), (29, x29), (30, x30), (31, x31), (32, x32), (33, x33), (34, x34), (35, x35), (36, x36), (37, x37), (38, x38), (39, x39), (40, x40), (41, x41), (42, x42), (43, x43), (44, x44), (45, x45), (46, x46), (47, x47), (48, x48), (49, x49), (50, x50), (51, x51)]) h kk =
    bnd (aPick x48 x51 (.bool false)) fun v10 =>
    kk (st 58 [(2, x2), (4, x4), (5, x5), (7, x7), (8, x8), (26, x26), (27, x27), (28, x28), (29, x29), (30, x30), (31, x31), (32, x32), (33, x33), (34, x34), (35, x35), (36, x36), (37, x37), (38, x38), (39, x39), (40, x40), (41, x41), (42, x42), (43, x43), (44, x44), (45, x45), (46, x46), (47, x47), (48, x48), (49, x49), (50, x50), (51, x51), (52, v10), (53, v10)]) h
  := by kernel_rfl
theorem j36_5_10 {β : Type} (call : CallF) (md : Bool) (k : Ex → List AV → Heap → Option β) (x2 x4 x5 x7 x8 x26 x27 x28 x29 x30 x31 x32 x33 x34 x35 x36 x37 x38 x39 x40 x41 x42 x43 x44 x45 x46 x47 x48 x49 x50 x51 : AV) (h : Heap) :
    opsK C0 call md 36 (O36 5) ((O36 5).toList.drop 26) (st 58 [(2, x2), (4, x4), (5, x5), (7, x7), (8, x8), (26, x26), (27, x27), (28, x28), (29, x29), (30, x30), (31, x31), (32, x32), (33, x33), (34, x34), (35, x35), (36, x36), (37, x37), (38, x38), (39, x39), (40, x40), (41, x41), (42, x42), (43, x43), (44, x44), (45, x45), (46, x46), (47, x47), (48, x48), (49, x49), (50, x50), (51, x51)]) h (fun tm h => k .normal (clr (C0.keep 36 5) tm) h) = J36_5_10 call md k x2 x48 x51 h := by
  have e : ((O36 5).toList.drop 26) = ((O36 5).toList.drop 26).take 2 ++ (O36 5).toList.drop 28 := by kernel_rfl
  rw [show opsK C0 call md 36 (O36 5) ((O36 5).toList.drop 26) = opsK C0 call md 36 (O36 5) (((O36 5).toList.drop 26).take 2 ++ (O36 5).toList.drop 28) from congrArg _ e]
  rw [opsK_append, g36_5_10]
  simp only [j36_5_11]
  rfl
def J36_5_9 {β : Type} (call : CallF) (md : Bool) (k : Ex → List AV → Heap → Option β) (x2 x48 : AV) (h : Heap) : Option β :=
    onG true x48 (
      bnd2 (aCall call md (.fn (.func 37) []) [x2] h) fun v11 h12 =>
      bnd (aBinC tab .eql 3 v11 (.int .i64 1) true) fun v13 =>
      J36_5_10 call md k x2 x48 v13 h12) (
      J36_5_10 call md k x2 x48 .skip h)
theorem g36_5_9 {β : Type} (call : CallF) (md : Bool) (kk : List AV → Heap → Option β) (x2 x4 x5 x7 x8 x26 x27 x28 x29 x30 x31 x32 x33 x34 x35 x36 x37 x38 x39 x40 x41 x42 x43 x44 x45 x46 x47 x48 : AV) (h : Heap) :
    opsK C0 call md 36 (O36 5) (((O36 5).toList.drop 23).take 3) (st 58 [(2, x2), (4, x4), (5, x5), (7, x7), (8, x8), (26, x26), (27, x27), (28, x28), (29, x29), (30, x30), (31, x31), (32, x32), (33, x33), (34, x34), (35, x35), (36, x36), (37, x37), (38, x38), (39, x39), (40, x40), (41, x41), (42, x42), (43, x43), (44, x44), (45, x45), (46, x46), (47, x47), (48, x48)]) h kk =
    onG true x48 (
      bnd2 (aCall call md (.fn (.func 37) []) [x2] h) fun v14 h15 =>
      bnd (aBinC tab .eql 3 v14 (.int .i64 1) true) fun v16 =>
      kk (st 58 [(2, x2), (4, x4), (5, x5), (7, x7), (8, x8), (26, x26), (27, x27), (28, x28), (29, x29), (30, x30), (31, x31), (32, x32), (33, x33), (34, x34), (35, x35), (36, x36), (37, x37), (38, x38), (39, x39), (40, x40), (41, x41), (42, x42), (43, x43), (44, x44), (45, x45), (46, x46), (47, x47), (48, x48), (49, x2), (50, v14), (51, v16)]) h15) (
      kk (st 58 [(2, x2), (4, x4), (5, x5), (7, x7), (8, x8), (26, x26), (27, x27), (28, x28), (29, x29), (30, x30), (31, x31), (32, x32), (33, x33), (34, x34), (35, x35), (36, x36), (37, x37), (38, x38), (39, x39), (40, x40), (41, x41), (42, x42), (43, x43), (44, x44), (45, x45), (46, x46), (47, x47), (48, x48), (49, .skip), (50, .skip), (51, .skip)]) h)
  := by cases x48 with | bool b => (cases b <;> kernel_rfl) | _ => kernel_rfl
theorem j36_5_9 {β : Type} (call : CallF) (md : Bool) (k : Ex → List AV → Heap → Option β) (x2 x4 x5 x7 x8 x26 x27 x28 x29 x30 x31 x32 x33 x34 x35 x36 x37 x38 x39 x40 x41 x42 x43 x44 x45 x46 x47 x48 : AV) (h : Heap) :
    opsK C0 call md 36 (O36 5) ((O36 5).toList.drop 23) (st 58 [(2, x2), (4, x4), (5, x5), (7, x7), (8, x8), (26, x26), (27, x27), (28, x28), (29, x29), (30, x30), (31, x31), (32, x32), (33, x33), (34, x34), (35, x35), (36, x36), (37, x37), (38, x38), (39, x39), (40, x40), (41, x41), (42, x42), (43, x43), (44, x44), (45, x45), (46, x46), (47, x47), (48, x48)]) h (fun tm h => k .normal (clr (C0.keep 36 5) tm) h) = J36_5_9 call md k x2 x48 h := by
  have e : ((O36 5).toList.drop 23) = ((O36 5).toList.drop 23).take 3 ++ (O36 5).toList.drop 26 := by kernel_rfl
  rw [show opsK C0 call md 36 (O36 5) ((O36 5).toList.drop 23) = opsK C0 call md 36 (O36 5) (((O36 5).toList.drop 23).take 3 ++ (O36 5).toList.drop 26) from congrArg _ e]
  rw [opsK_append, g36_5_9]
  simp only [j36_5_10]
  rfl
def J36_5_8 {β : Type} (call : CallF) (md : Bool) (k : Ex → List AV → Heap → Option β) (x2 x41 x46 : AV) (h : Heap) : Option β :=
    bnd (aPick x41 x46 (.bool false)) fun v17 =>
    J36_5_9 call md k x2 v17 h
theorem g36_5_8 {β : Type} (call : CallF) (md : Bool) (kk : List AV → Heap → Option β) (x2 x4 x5 x7 x8 x26 x27 x28 x29 x30 x31 x32 x33 x34 x35 x36 x37 x38 x39 x40 x41 x42 x43 x44 x45 x46 : AV) (h : Heap) :
    opsK C0 call md 36 (O36 5) (((O36 5).toList.drop 21).take 2) (st 58 [(2, x2), (4, x4), (5, x5), (7, x7), (8, x8), (26, x26), (27, x27), (28, x28), (29, x29), (30, x30), (31, x31), (32, x32), (33, x33), (34, x34), (35, x35), (36, x36), (37, x37), (38, x38), (39, x39), (40, x40), (41, x41), (42, x42), (43, x43), (44, x44), (45, x45), (46, x46)]) h kk =
    bnd (aPick x41 x46 (.bool false)) fun v18 =>
    kk (st 58 [(2, x2), (4, x4), (5, x5), (7, x7), (8, x8), (26, x26), (27, x27), (28, x28), (29, x29), (30, x30), (31, x31), (32, x32), (33, x33), (34, x34), (35, x35), (36, x36), (37, x37), (38, x38), (39, x39), (40, x40), (41, x41), (42, x42), (43, x43), (44, x44), (45, x45), (46, x46), (47, v18), (48, v18)]) h
  := by kernel_rfl
theorem j36_5_8 {β : Type} (call : CallF) (md : Bool) (k : Ex → List AV → Heap → Option β) (x2 x4 x5 x7 x8 x26 x27 x28 x29 x30 x31 x32 x33 x34 x35 x36 x37 x38 x39 x40 x41 x42 x43 x44 x45 x46 : AV) (h : Heap) :
    opsK C0 call md 36 (O36 5) ((O36 5).toList.drop 21) (st 58 [(2, x2), (4, x4), (5, x5), (7, x7), (8, x8), (26, x26), (27, x27), (28, x28), (29, x29), (30, x30), (31, x31), (32, x32), (33, x33), (34, x34), (35, x35), (36, x36), (37, x37), (38, x38), (39, x39), (40, x40), (41, x41), (42, x42), (43, x43), (44, x44), (45, x45), (46, x46)]) h (fun tm h => k .normal (clr (C0.keep 36 5) tm) h) = J36_5_8 call md k x2 x41 x46 h := by
  have e : ((O36 5).toList.drop 21) = ((O36 5).toList.drop 21).take 2 ++ (O36 5).toList.drop 23 := by kernel_rfl
  rw [show opsK C0 call md 36 (O36 5) ((O36 5).toList.drop 21) = opsK C0 call md 36 (O36 5) (((O36 5).toList.drop 21).take 2 ++ (O36 5).toList.drop 23) from congrArg _ e]
  rw [opsK_append, g36_5_8]
  simp only [j36_5_9]
  rfl
def J36_5_7 {β : Type} (call : CallF) (md : Bool) (k : Ex → List AV → Heap → Option β) (x2 x7 x41 : AV) (h : Heap) : Option β :=
    onG true x41 (
      bnd (aIndexAddr tab 30 x7 (.int .i64 0)) fun v19 =>
      bnd (aLoad tab 22 v19 h) fun v20 =>
      bnd (aConv tab 22 9 v20 h) fun v21 =>
      bnd (aBinC tab .eql 9 v21 (liftC (Go.Value.string {data := #[104, 105]})) true) fun v22 =>
      J36_5_8 call md k x2 x41 v22 h) (
      J36_5_8 call md k x2 x41 .skip h)
theorem g36_5_7 {β : Type} (call : CallF) (md : Bool) (kk : List AV → Heap → Option β) (x2 x4 x5 x7 x8 x26 x27 x28 x29 x30 x31 x32 x33 x34 x35 x36 x37 x38 x39 x40 x41 : AV) (h : Heap) :
    opsK C0 call md 36 (O36 5) (((O36 5).toList.drop 16).take 5) (st 58 [(2, x2), (4, x4), (5, x5), (7, x7), (8, x8), (26, x26), (27, x27), (28, x28), (29, x29), (30, x30), (31, x31), (32, x32), (33, x33), (34, x34), (35, x35), (36, x36), (37, x37), (38, x38), (39, x39), (40, x40), (41, x41)]) h kk =
    onG true x41 (
      bnd (aIndexAddr tab 30 x7 (.int .i64 0)) fun v23 =>
      bnd (aLoad tab 22 v23 h) fun v24 =>
      bnd (aConv tab 22 9 v24 h) fun v25 =>
      bnd (aBinC tab .eql 9 v25 (liftC (Go.Value.string {data := #[104, 105]})) true) fun v26 =>
      kk (st 58 [(2, x2), (4, x4), (5, x5), (7, x7), (8, x8), (26, x26), (27, x27), (28, x28), (29, x29), (30, x30), (31, x31), (32, x32), (33, x33), (34, x34), (35, x35), (36, x36), (37, x37), (38, x38), (39, x39), (40, x40), (41, x41), (42, x7), (43, v23), (44, v24), (45, v25), (46, v26)]) h) (
      kk (st 58 [(2, x2), (4, x4), (5, x5), (7, x7), (8, x8), (26, x26), (27, x27), (28, x28), (29, x29), (30, x30), (31, x31), (32, x32), (33, x33), (34, x34), (35, x35), (36, x36), (37, x37), (38, x38), (39, x39), (40, x40), (41, x41), (42, .skip), (43, .skip), (44, .skip), (45, .skip), (46, .skip)]) h)
  := by cases x41 with | bool b => (cases b <;> kernel_rfl) | _ => kernel_rfl
theorem j36_5_7 {β : Type} (call : CallF) (md : Bool) (k : Ex → List AV → Heap → Option β) (x2 x4 x5 x7 x8 x26 x27 x28 x29 x30 x31 x32 x33 x34 x35 x36 x37 x38 x39 x40 x41 : AV) (h : Heap) :
    opsK C0 call md 36 (O36 5) ((O36 5).toList.drop 16) (st 58 [(2, x2), (4, x4), (5, x5), (7, x7), (8, x8), (26, x26), (27, x27), (28, x28), (29, x29), (30, x30), (31, x31), (32, x32), (33, x33), (34, x34), (35, x35), (36, x36), (37, x37), (38, x38), (39, x39), (40, x40), (41, x41)]) h (fun tm h => k .normal (clr (C0.keep 36 5) tm) h) = J36_5_7 call md k x2 x7 x41 h := by
  have e : ((O36 5).toList.drop 16) = ((O36 5).toList.drop 16).take 5 ++ (O36 5).toList.drop 21 := by kernel_rfl
  rw [show opsK C0 call md 36 (O36 5) ((O36 5).toList.drop 16) = opsK C0 call md 36 (O36 5) (((O36 5).toList.drop 16).take 5 ++ (O36 5).toList.drop 21) from congrArg _ e]
  rw [opsK_append, g36_5_7]
  simp only [j36_5_8]
  rfl
def J36_5_6 {β : Type} (call : CallF) (md : Bool) (k : Ex → List AV → Heap → Option β) (x2 x7 x36 x39 : AV) (h : Heap) : Option β :=
    bnd (aPick x36 x39 (.bool false)) fun v27 =>
    J36_5_7 call md k x2 x7 v27 h
theorem g36_5_6 {β : Type} (call : CallF) (md : Bool) (kk : List AV → Heap → Option β) (x2 x4 x5 x7 x8 x26 x27 x28 x29 x30 x31 x32 x33 x34 x35 x36 x37 x38 x39 : AV) (h : Heap) :
    opsK C0 call md 36 (O36 5) (((O36 5).toList.drop 14).take 2) (st 58 [(2, x2), (4, x4), (5, x5), (7, x7), (8, x8), (26, x26), (27, x27), (28, x28), (29, x29), (30, x30), (31, x31), (32, x32), (33, x33), (34, x34), (35, x35), (36, x36), (37, x37), (38, x38), (39, x39)]) h kk =
    bnd (aPick x36 x39 (.bool false)) fun v28 =>
    kk (st 58 [(2, x2), (4, x4), (5, x5), (7, x7), (8, x8), (26, x26), (27, x27), (28, x28), (29, x29), (30, x30), (31, x31), (32, x32), (33, x33), (34, x34), (35, x35), (36, x36), (37, x37), (38, x38), (39, x39), (40, v28), (41, v28)]) h
  := by kernel_rfl
theorem j36_5_6 {β : Type} (call : CallF) (md : Bool) (k : Ex → List AV → Heap → Option β) (x2 x4 x5 x7 x8 x26 x27 x28 x29 x30 x31 x32 x33 x34 x35 x36 x37 x38 x39 : AV) (h : Heap) :
    opsK C0 call md 36 (O36 5) ((O36 5).toList.drop 14) (st 58 [(2, x2), (4, x4), (5, x5), (7, x7), (8, x8), (26, x26), (27, x27), (28, x28), (29, x29), (30, x30), (31, x31), (32, x32), (33, x33), (34, x34), (35, x35), (36, x36), (37, x37), (38, x38), (39, x39)]) h (fun tm h => k .normal (clr (C0.keep 36 5) tm) h) = J36_5_6 call md k x2 x7 x36 x39 h := by
  have e : ((O36 5).toList.drop 14) = ((O36 5).toList.drop 14).take 2 ++ (O36 5).toList.drop 16 := by kernel_rfl
  rw [show opsK C0 call md 36 (O36 5) ((O36 5).toList.drop 14) = opsK C0 call md 36 (O36 5) (((O36 5).toList.drop 14).take 2 ++ (O36 5).toList.drop 16) from congrArg _ e]
  rw [opsK_append, g36_5_6]
  simp only [j36_5_7]
  rfl
def J36_5_5 {β : Type} (call : CallF) (md : Bool) (k : Ex → List AV → Heap → Option β) (x2 x7 x36 : AV) (h : Heap) : Option β :=
    onG true x36 (
      bnd (aLen tab 30 x7) fun v29 =>
      bnd (aBinC tab .eql 3 v29 (.int .i64 1) true) fun v30 =>
      J36_5_6 call md k x2 x7 x36 v30 h) (
      J36_5_6 call md k x2 x7 x36 .skip h)
theorem g36_5_5 {β : Type} (call : CallF) (md : Bool) (kk : List AV → Heap → Option β) (x2 x4 x5 x7 x8 x26 x27 x28 x29 x30 x31 x32 x33 x34 x35 x36 : AV) (h : Heap) :
    opsK C0 call md 36 (O36 5) (((O36 5).toList.drop 11).take 3) (st 58 [(2, x2), (4, x4), (5, x5), (7, x7), (8, x8), (26, x26), (27, x27), (28, x28), (29, x29), (30, x30), (31, x31), (32, x32), (33, x33), (34, x34), (35, x35), (36, x36)]) h kk =
    onG true x36 (
      bnd (aLen tab 30 x7) fun v31 =>
      bnd (aBinC tab .eql 3 v31 (.int .i64 1) true) fun v32 =>
      kk (st 58 [(2, x2), (4, x4), (5, x5), (7, x7), (8, x8), (26, x26), (27, x27), (28, x28), (29, x29), (30, x30), (31, x31), (32, x32), (33, x33), (34, x34), (35, x35), (36, x36), (37, x7), (38, v31), (39, v32)]) h) (
      kk (st 58 [(2, x2), (4, x4), (5, x5), (7, x7), (8, x8), (26, x26), (27, x27), (28, x28), (29, x29), (30, x30), (31, x31), (32, x32), (33, x33), (34, x34), (35, x35), (36, x36), (37, .skip), (38, .skip), (39, .skip)]) h)
  := by cases x36 with | bool b => (cases b <;> kernel_rfl) | _ => kernel_rfl
theorem j36_5_5 {β : Type} (call : CallF) (md : Bool) (k : Ex → List AV → Heap → Option β) (x2 x4 x5 x7 x8 x26 x27 x28 x29 x30 x31 x32 x33 x34 x35 x36 : AV) (h : Heap) :
    opsK C0 call md 36 (O36 5) ((O36 5).toList.drop 11) (st 58 [(2, x2), (4, x4), (5, x5), (7, x7), (8, x8), (26, x26), (27, x27), (28, x28), (29, x29), (30, x30), (31, x31), (32, x32), (33, x33), (34, x34), (35, x35), (36, x36)]) h (fun tm h => k .normal (clr (C0.keep 36 5) tm) h) = J36_5_5 call md k x2 x7 x36 h := by
  have e : ((O36 5).toList.drop 11) = ((O36 5).toList.drop 11).take 3 ++ (O36 5).toList.drop 14 := by kernel_rfl
  rw [show opsK C0 call md 36 (O36 5) ((O36 5).toList.drop 11) = opsK C0 call md 36 (O36 5) (((O36 5).toList.drop 11).take 3 ++ (O36 5).toList.drop 14) from congrArg _ e]
  rw [opsK_append, g36_5_5]
  simp only [j36_5_6]
  rfl
def J36_5_4 {β : Type} (call : CallF) (md : Bool) (k : Ex → List AV → Heap → Option β) (x2 x7 x32 x34 : AV) (h : Heap) : Option β :=
    bnd (aPick x32 x34 (.bool false)) fun v33 =>
    J36_5_5 call md k x2 x7 v33 h
theorem g36_5_4 {β : Type} (call : CallF) (md : Bool) (kk : List AV → Heap → Option β) (x2 x4 x5 x7 x8 x26 x27 x28 x29 x30 x31 x32 x33 x34 : AV) (h : Heap) :
    opsK C0 call md 36 (O36 5) (((O36 5).toList.drop 9).take 2) (st 58 [(2, x2), (4, x4), (5, x5), (7, x7), (8, x8), (26, x26), (27, x27), (28, x28), (29, x29), (30, x30), (31, x31), (32, x32), (33, x33), (34, x34)]) h kk =
    bnd (aPick x32 x34 (.bool false)) fun v34 =>
    kk (st 58 [(2, x2), (4, x4), (5, x5), (7, x7), (8, x8), (26, x26), (27, x27), (28, x28), (29, x29), (30, x30), (31, x31), (32, x32), (33, x33), (34, x34), (35, v34), (36, v34)]) h
  := by kernel_rfl
theorem j36_5_4 {β : Type} (call : CallF) (md : Bool) (k : Ex → List AV → Heap → Option β) (x2 x4 x5 x7 x8 x26 x27 x28 x29 x30 x31 x32 x33 x34 : AV) (h : Heap) :
    opsK C0 call md 36 (O36 5) ((O36 5).toList.drop 9) (st 58 [(2, x2), (4, x4), (5, x5), (7, x7), (8, x8), (26, x26), (27, x27), (28, x28), (29, x29), (30, x30), (31, x31), (32, x32), (33, x33), (34, x34)]) h (fun tm h => k .normal (clr (C0.keep 36 5) tm) h) = J36_5_4 call md k x2 x7 x32 x34 h := by
  have e : ((O36 5).toList.drop 9) = ((O36 5).toList.drop 9).take 2 ++ (O36 5).toList.drop 11 := by kernel_rfl
  rw [show opsK C0 call md 36 (O36 5) ((O36 5).toList.drop 9) = opsK C0 call md 36 (O36 5) (((O36 5).toList.drop 9).take 2 ++ (O36 5).toList.drop 11) from congrArg _ e]
  rw [opsK_append, g36_5_4]
  simp only [j36_5_5]
  rfl
def J36_5_3 {β : Type} (call : CallF) (md : Bool) (k : Ex → List AV → Heap → Option β) (x2 x7 x8 x32 : AV) (h : Heap) : Option β :=
    onG true x32 (
      bnd (aBinC tab .eql 27 x8 (.int .i64 0) true) fun v35 =>
      J36_5_4 call md k x2 x7 x32 v35 h) (
      J36_5_4 call md k x2 x7 x32 .skip h)
theorem g36_5_3 {β : Type} (call : CallF) (md : Bool) (kk : List AV → Heap → Option β) (x2 x4 x5 x7 x8 x26 x27 x28 x29 x30 x31 x32 : AV) (h : Heap) :
    opsK C0 call md 36 (O36 5) (((O36 5).toList.drop 7).take 2) (st 58 [(2, x2), (4, x4), (5, x5), (7, x7), (8, x8), (26, x26), (27, x27), (28, x28), (29, x29), (30, x30), (31, x31), (32, x32)]) h kk =
    onG true x32 (
      bnd (aBinC tab .eql 27 x8 (.int .i64 0) true) fun v36 =>
      kk (st 58 [(2, x2), (4, x4), (5, x5), (7, x7), (8, x8), (26, x26), (27, x27), (28, x28), (29, x29), (30, x30), (31, x31), (32, x32), (33, x8), (34, v36)]) h) (
      kk (st 58 [(2, x2), (4, x4), (5, x5), (7, x7), (8, x8), (26, x26), (27, x27), (28, x28), (29, x29), (30, x30), (31, x31), (32, x32), (33, .skip), (34, .skip)]) h)
  := by cases x32 with | bool b => (cases b <;> kernel_rfl) | _ => kernel_rfl
theorem j36_5_3 {β : Type} (call : CallF) (md : Bool) (k : Ex → List AV → Heap → Option β) (x2 x4 x5 x7 x8 x26 x27 x28 x29 x30 x31 x32 : AV) (h : Heap) :
    opsK C0 call md 36 (O36 5) ((O36 5).toList.drop 7) (st 58 [(2, x2), (4, x4), (5, x5), (7, x7), (8, x8), (26, x26), (27, x27), (28, x28), (29, x29), (30, x30), (31, x31), (32, x32)]) h (fun tm h => k .normal (clr (C0.keep 36 5) tm) h) = J36_5_3 call md k x2 x7 x8 x32 h := by
  have e : ((O36 5).toList.drop 7) = ((O36 5).toList.drop 7).take 2 ++ (O36 5).toList.drop 9 := by kernel_rfl
  rw [show opsK C0 call md 36 (O36 5) ((O36 5).toList.drop 7) = opsK C0 call md 36 (O36 5) (((O36 5).toList.drop 7).take 2 ++ (O36 5).toList.drop 9) from congrArg _ e]
  rw [opsK_append, g36_5_3]
  simp only [j36_5_4]
  rfl
def J36_5_2 {β : Type} (call : CallF) (md : Bool) (k : Ex → List AV → Heap → Option β) (x2 x7 x8 x28 x30 : AV) (h : Heap) : Option β :=
    bnd (aPick x28 x30 (.bool false)) fun v37 =>
    J36_5_3 call md k x2 x7 x8 v37 h
theorem g36_5_2 {β : Type} (call : CallF) (md : Bool) (kk : List AV → Heap → Option β) (x2 x4 x5 x7 x8 x26 x27 x28 x29 x30 : AV) (h : Heap) :
    opsK C0 call md 36 (O36 5) (((O36 5).toList.drop 5).take 2) (st 58 [(2, x2), (4, x4), (5, x5), (7, x7), (8, x8), (26, x26), (27, x27), (28, x28), (29, x29), (30, x30)]) h kk =
    bnd (aPick x28 x30 (.bool false)) fun v38 =>
    kk (st 58 [(2, x2), (4, x4), (5, x5), (7, x7), (8, x8), (26, x26), (27, x27), (28, x28), (29, x29), (30, x30), (31, v38), (32, v38)]) h
  := by kernel_rfl
theorem j36_5_2 {β : Type} (call : CallF) (md : Bool) (k : Ex → List AV → Heap → Option β) (x2 x4 x5 x7 x8 x26 x27 x28 x29 x30 : AV) (h : Heap) :
    opsK C0 call md 36 (O36 5) ((O36 5).toList.drop 5) (st 58 [(2, x2), (4, x4), (5, x5), (7, x7), (8, x8), (26, x26), (27, x27), (28, x28), (29, x29), (30, x30)]) h (fun tm h => k .normal (clr (C0.keep 36 5) tm) h) = J36_5_2 call md k x2 x7 x8 x28 x30 h := by
  have e : ((O36 5).toList.drop 5) = ((O36 5).toList.drop 5).take 2 ++ (O36 5).toList.drop 7 := by kernel_rfl
  rw [show opsK C0 call md 36 (O36 5) ((O36 5).toList.drop 5) = opsK C0 call md 36 (O36 5) (((O36 5).toList.drop 5).take 2 ++ (O36 5).toList.drop 7) from congrArg _ e]
  rw [opsK_append, g36_5_2]
  simp only [j36_5_3]
  rfl
def J36_5_1 {β : Type} (call : CallF) (md : Bool) (k : Ex → List AV → Heap → Option β) (x2 x5 x7 x8 x28 : AV) (h : Heap) : Option β :=
    onG true x28 (
      bnd (aBinC tab .eql 27 x5 (.int .i64 0) true) fun v39 =>
      J36_5_2 call md k x2 x7 x8 x28 v39 h) (
      J36_5_2 call md k x2 x7 x8 x28 .skip h)
theorem g36_5_1 {β : Type} (call : CallF) (md : Bool) (kk : List AV → Heap → Option β) (x2 x4 x5 x7 x8 x26 x27 x28 : AV) (h : Heap) :
    opsK C0 call md 36 (O36 5) (((O36 5).toList.drop 3).take 2) (st 58 [(2, x2), (4, x4), (5, x5), (7, x7), (8, x8), (26, x26), (27, x27), (28, x28)]) h kk =
    onG true x28 (
      bnd (aBinC tab .eql 27 x5 (.int .i64 0) true) fun v40 =>
      kk (st 58 [(2, x2), (4, x4), (5, x5), (7, x7), (8, x8), (26, x26), (27, x27), (28, x28), (29, x5), (30, v40)]) h) (
      kk (st 58 [(2, x2), (4, x4), (5, x5), (7, x7), (8, x8), (26, x26), (27, x27), (28, x28), (29, .skip), (30, .skip)]) h)
  := by cases x28 with | bool b => (cases b <;> kernel_rfl) | _ => kernel_rfl
theorem j36_5_1 {β : Type} (call : CallF) (md : Bool) (k : Ex → List AV → Heap → Option β) (x2 x4 x5 x7 x8 x26 x27 x28 : AV) (h : Heap) :
    opsK C0 call md 36 (O36 5) ((O36 5).toList.drop 3) (st 58 [(2, x2), (4, x4), (5, x5), (7, x7), (8, x8), (26, x26), (27, x27), (28, x28)]) h (fun tm h => k .normal (clr (C0.keep 36 5) tm) h) = J36_5_1 call md k x2 x5 x7 x8 x28 h := by
  have e : ((O36 5).toList.drop 3) = ((O36 5).toList.drop 3).take 2 ++ (O36 5).toList.drop 5 := by kernel_rfl
  rw [show opsK C0 call md 36 (O36 5) ((O36 5).toList.drop 3) = opsK C0 call md 36 (O36 5) (((O36 5).toList.drop 3).take 2 ++ (O36 5).toList.drop 5) from congrArg _ e]
  rw [opsK_append, g36_5_1]
  simp only [j36_5_2]
  rfl
def J36_5_0 {β : Type} (call : CallF) (md : Bool) (k : Ex → List AV → Heap → Option β) (x2 x4 x5 x7 x8 : AV) (h : Heap) : Option β :=
    bnd (aBinC tab .eql 27 x4 (.int .i64 0) true) fun v41 =>
    J36_5_1 call md k x2 x5 x7 x8 v41 h
theorem g36_5_0 {β : Type} (call : CallF) (md : Bool) (kk : List AV → Heap → Option β) (x2 x4 x5 x7 x8 : AV) (h : Heap) :
    opsK C0 call md 36 (O36 5) ((O36 5).toList.take 3) (st 58 [(2, x2), (4, x4), (5, x5), (7, x7), (8, x8)]) h kk =
    bnd (aBinC tab .eql 27 x4 (.int .i64 0) true) fun v42 =>
    kk (st 58 [(2, x2), (4, x4), (5, x5), (7, x7), (8, x8), (26, x4), (27, v42), (28, v42)]) h
  := by kernel_rfl
theorem j36_5_0 {β : Type} (call : CallF) (md : Bool) (k : Ex → List AV → Heap → Option β) (x2 x4 x5 x7 x8 : AV) (h : Heap) :
    opsK C0 call md 36 (O36 5) (O36 5).toList (st 58 [(2, x2), (4, x4), (5, x5), (7, x7), (8, x8)]) h (fun tm h => k .normal (clr (C0.keep 36 5) tm) h) = J36_5_0 call md k x2 x4 x5 x7 x8 h := by
  have e : (O36 5).toList = (O36 5).toList.take 3 ++ (O36 5).toList.drop 3 := by kernel_rfl
  rw [show opsK C0 call md 36 (O36 5) (O36 5).toList = opsK C0 call md 36 (O36 5) ((O36 5).toList.take 3 ++ (O36 5).toList.drop 3) from congrArg _ e]
  rw [opsK_append, g36_5_0]
  simp only [j36_5_1]
  rfl
theorem r36_5 {β : Type} (call : CallF) (md : Bool) (n : Nat) (k : Ex → List AV → Heap → Option β) (x2 x4 x5 x7 x8 : AV) (h : Heap) :
    runK C0 call md 36 n (.region 5 (O36 5) false) k (st 58 [(2, x2), (4, x4), (5, x5), (7, x7), (8, x8)]) h = J36_5_0 call md k x2 x4 x5 x7 x8 h := (runK_region C0 call md 36 n 5 (O36 5) k (st 58 [(2, x2), (4, x4), (5, x5), (7, x7), (8, x8)]) h).trans (j36_5_0 call md k x2 x4 x5 x7 x8 h)
end Go.Ax

set_option linter.unusedVariables false
namespace Go.Ax
open Go Go.Proofs
theorem e8 : E0 8 = some ⟨65, [4], bodyOf Try.f8⟩ := by kernel_rfl
end Go.Ax

namespace Go.Ax
open Go Go.Proofs
theorem Lsk.fresh {S : Obs} {h h' : Heap} {q p r : Nat} {w : Wl} (L : Lsk S h q p r w) (k : Keep (From h.length) h h') : Lsk S h' q p r w :=
  ⟨L.hq, by rw [k.2 q (Nat.not_le.2 (List.getElem?_eq_some_iff.1 L.var).1)]; exact L.var, L.dsk.fresh k⟩
theorem Lsk.lt {S : Obs} {h : Heap} {q p r : Nat} {w : Wl} (L : Lsk S h q p r w) : q < h.length := (List.getElem?_eq_some_iff.1 L.var).1
theorem Lsk.up {S : Obs} {h : Heap} {q p r : Nat} {w : Wl} (L : Lsk S h q p r w) (up : Up S h) : Up (fun i => S i ∧ i ≠ q) h := fun i hi => ⟨up i hi, by have := L.lt; omega⟩
theorem calm_sane {l : List (List UInt8)} (h : l.length ≤ 1024) : Sane (Calm l) := ⟨fun _ => rfl, by simp [Calm], by simp [Calm], h⟩
theorem ext32 (x y z : AV) : aExtract (.tuple [x, y, z]) 2 = some z := rfl
theorem answers4_ok (h : Heap) (k : Nat) (hk : 10500 < k) : ∃ h', exFn C0 E0 (k + 1) false 36 [] h = some (.bool true, h') ∧ Keep (From h.length) h h' := by
  obtain ⟨k, rfl⟩ : ∃ j, k = j + 3 := ⟨k - 3, by omega⟩
  have up := Up.fresh h
  obtain ⟨p, r, h1, n1, D1, k1⟩ := new_ok 40 h false (k + 2)
  have up1 := up.keep k1
  obtain ⟨o1, L1⟩ := open_blank 40 (by omega) (by omega)
  have dn : Dk.new 40 = Calm (List.replicate 40 zs) := rfl
  rw [dn] at D1
  obtain ⟨h2, l, x, g1, k2, -, a2, -⟩ := open_ok D1 up1 (by simp [Calm]) (calm_sane (by simp)) (k + 2) (by omega)
  rw [o1] at g1 a2
  obtain ⟨q, rfl, hq1, hq2, W1, -⟩ := a2 rfl
  have k3 : Keep (From h2.length) h2 (h2 ++ [.dead]) := Keep.app h2 _ (Up.fresh h2)
  have W1' := W1.fresh k3
  have up3 := (up1.keep k2).keep k3
  have hn1 : nOf hi = 2 := rfl
  obtain ⟨p1, L2⟩ := L1.append (b := hi) (by decide) (by rw [hn1]; simp; decide)
  obtain ⟨h4, g2, W2, k4⟩ := append_ok W1' up3 (by simp [Calm]) (by decide) (by decide) (calm_sane (by simp)) hi_bs (by decide) (k + 2) (by omega)
  rw [p1] at g2 W2
  have up4 := up3.keep k4
  have o2 := L2.open
  have ll := L2.hi
  have ll2 := L2.lo
  have hlen : (laid ((List.replicate 40 zs).set 1 (pad (superOf 1))) (fromOf 40 1) ((1 : Nat) : Int) hi).length = 40 := by rw [laid_length]; simp
  generalize laid ((List.replicate 40 zs).set 1 (pad (superOf 1))) (fromOf 40 1) ((1 : Nat) : Int) hi = l2 at *
  obtain ⟨h5, l', y, g3, k5, D5, a5, -⟩ := open_ok W2.dsk (W2.up up4) (by exact ll2) (calm_sane ll) (k + 2) (by omega)
  rw [o2] at g3 a5 D5
  obtain ⟨q', rfl, -, -, -, a6⟩ := a5 rfl
  have hv : h5[q]? = _ := (k5.2 q (fun h => h.2 rfl)).trans W2.var
  obtain ⟨v, hv1, bv⟩ := a6.rw.idx (i := 0) rfl
  rw [show ((0 : Nat) : Int) = 0 from rfl] at hv1
  have W5 : Lsk (From h.length) h5 q p r ⟨Calm l2, 1, ((fromOf 40 1 + nOf hi : Nat) : Int), false⟩ := ⟨W2.hq, hv, D5⟩
  have us := used_ok W5 (by show 2 ≤ l2.length; omega) (by show 1 < 2 ^ 62; decide) (by show (0 : Int) ≤ ((fromOf 40 1 + nOf hi : Nat) : Int); decide) (by show ((fromOf 40 1 + nOf hi : Nat) : Int) < 2 ^ 62; decide) k
  have gs := gen_ok W5.var (k + 2)
  have hl40 : l2.length = 40 := hlen
  rw [show (Calm l2).lasts.length = 40 from hl40] at us
  have kk := (((k1.trans k2).trans (k3.up (up1.keep k2))).trans k4).trans (k5.mono fun i hi => hi.1)
  have c1 : decide ((((1 : Nat) : Int)) = 1) = true := by decide
  have c2 : decide ((((fromOf 40 1 + nOf hi : Nat) : Int)) - (fromOf 40 1 : Nat) = 2) = true := by decide
  have c3 : decide ((0 : Int) = 0) = true := by decide
  have c4 : decide (((([] : List (List UInt8)) ++ [hi]).length : Int) = 1) = true := by decide
  have c5 : (hi == hi) = true := by decide
  refine ⟨h5, exFn_of e36 ?_, kk⟩
  rw [fnK, show (([] : List AV) ++ List.replicate (58 - ([] : List AV).length) AV.undef) = st 58 [] from rfl, s36]
  simp -implicitDefEqProofs only [↓runK_seq, runK_seq, ↓runK_cond, runK_cond, ↓runK_block, runK_block, ↓runK_loop, runK_loop, ↓runK_skip, runK_skip, ↓runK_ret, runK_ret, ↓runK_exit, runK_exit, ↓seqE_n, seqE_n, ↓seqE_e, seqE_e, ↓seqE_r, seqE_r, ↓blkE_n, blkE_n, ↓blkE_e, blkE_e, ↓blkE_r, blkE_r, ↓retK_n, retK_n, ↓retK_r, retK_r, ↓aCall_fn, aCall_fn, ↓bnd_s, bnd_s, ↓bnd2_s, bnd2_s, ↓onB_t, onB_t, ↓onB_f, onB_f, ↓onG_tt, onG_tt, ↓onG_tf, onG_tf, ↓onG_ft, onG_ft, ↓onG_ff, onG_ff, ↓onG_s, onG_s, ↓onT_t, onT_t, ↓aPick_t, aPick_t, ↓aPick_f, aPick_f, decide_true, decide_false, st_tmp, results1, results2, List.lookup_cons, List.lookup_nil, Nat.reduceBEq, Bool.false_eq_true, ↓reduceIte, BEq.rfl, Nat.reduceLT, Option.getD_some, Option.getD_none, ↓r36_0, r36_0, ↓r36_1, r36_1, ↓r36_2, r36_2, ↓r36_3, r36_3, ↓r36_4, r36_4, ↓r36_5, r36_5, J36_5_0, J36_5_1, J36_5_2, J36_5_3, J36_5_4, J36_5_5, J36_5_6, J36_5_7, J36_5_8, J36_5_9, J36_5_10, J36_5_11, J36_5_12, n1, g1, ext30, ext31, ext32, rowlit_hi, conv_hi, frz_hi, g2, g3, bin_eql, c3, a6.rw.len, c4, hv1, load22, bv.str, lift_hi, str_eql, str_hi, c5, gs, c1, us, c2]
end Go.Ax

namespace Go.Ax
open Go Go.Proofs
theorem shr1_toNat (v : BitVec 32) : (v >>> 1).toNat = v.toNat / 2 := by rw [BitVec.toNat_ushiftRight, Nat.shiftRight_eq_div_pow]
theorem crcBit_inj {v w : BitVec 32} (h : crcBit v = crcBit w) : v = w := by
  have top : ∀ x : BitVec 32, (x >>> 1).getLsbD 31 = false := by
    intro x
    rw [BitVec.getLsbD_ushiftRight]
    exact BitVec.getLsbD_of_ge _ _ (by decide)
  have ptop : (2197175160#32).getLsbD 31 = true := by decide
  have mixed : ∀ x y : BitVec 32, (x >>> 1) ^^^ 2197175160#32 = y >>> 1 → False := by
    intro x y e
    have := congrArg (fun z => BitVec.getLsbD z 31) e
    simp only [BitVec.getLsbD_xor, top, ptop] at this
    cases this
  have half : ∀ x y : BitVec 32, x.toNat % 2 = y.toNat % 2 → x >>> 1 = y >>> 1 → x = y := by
    intro x y e1 e2
    apply BitVec.eq_of_toNat_eq
    have := congrArg BitVec.toNat e2
    rw [shr1_toNat, shr1_toNat] at this
    omega
  rcases Nat.mod_two_eq_zero_or_one v.toNat with hv | hv <;> rcases Nat.mod_two_eq_zero_or_one w.toNat with hw | hw
  · rw [crcBit_even hv, crcBit_even hw] at h
    exact half _ _ (by omega) h
  · rw [crcBit_even hv, crcBit_odd hw] at h
    exact (mixed _ _ h.symm).elim
  · rw [crcBit_odd hv, crcBit_even hw] at h
    exact (mixed _ _ h).elim
  · rw [crcBit_odd hv, crcBit_odd hw] at h
    refine half _ _ (by omega) ?_
    have := congrArg (· ^^^ 2197175160#32) h
    simpa [BitVec.xor_assoc] using this
theorem crcBits_inj : ∀ (n : Nat) {v w : BitVec 32}, crcBits n v = crcBits n w → v = w
  | 0, _, _, h => h
  | n + 1, _, _, h => crcBit_inj (crcBits_inj n h)
theorem xor_cancel_r {a b c : BitVec 32} (h : a ^^^ c = b ^^^ c) : a = b := by
  have := congrArg (· ^^^ c) h
  simpa [BitVec.xor_assoc] using this
theorem xor_cancel_l {a b c : BitVec 32} (h : c ^^^ a = c ^^^ b) : a = b := by
  rw [BitVec.xor_comm c a, BitVec.xor_comm c b] at h
  exact xor_cancel_r h
theorem crcByte_inj {v w : BitVec 32} {c : UInt8} (h : crcByte v c = crcByte w c) : v = w := xor_cancel_r (crcBits_inj 8 h)
theorem crcByte_injc {v : BitVec 32} {c d : UInt8} (h : crcByte v c = crcByte v d) : c = d := by
  have h1 := xor_cancel_l (crcBits_inj 8 h)
  have := congrArg BitVec.toNat h1
  simp only [BitVec.toNat_setWidth] at this
  have a := c.toNat_lt
  have b := d.toNat_lt
  have e1 : c.toBitVec.toNat = c.toNat := rfl
  have e2 : d.toBitVec.toNat = d.toNat := rfl
  apply UInt8.toNat_inj.1
  omega
theorem fold_inj : ∀ (l : List UInt8) {v w : BitVec 32}, l.foldl crcByte v = l.foldl crcByte w → v = w
  | [], _, _, h => h
  | c :: l, _, _, h => crcByte_inj (fold_inj l h)
theorem crc_one {a b : List UInt8} {c d : UInt8} (h : crc (a ++ c :: b) = crc (a ++ d :: b)) : c = d := by
  unfold crc at h
  rw [List.foldl_append, List.foldl_append, List.foldl_cons, List.foldl_cons] at h
  have h2 := congrArg (fun x => ~~~ x) h
  simp only [BitVec.not_not] at h2
  exact crcByte_injc (fold_inj b h2)
theorem crc_set {l : List UInt8} {j : Nat} {c : UInt8} (hj : j < l.length) (h : crc (l.set j c) = crc l) : c = l[j] := by
  have e1 : l = l.take j ++ l[j] :: l.drop (j + 1) := by rw [← List.drop_eq_getElem_cons hj, List.take_append_drop]
  have e2 : l.set j c = l.take j ++ c :: l.drop (j + 1) := List.set_eq_take_append_cons_drop .. |>.trans (by rw [if_pos hj])
  rw [e2] at h
  have e3 : crc l = crc (l.take j ++ l[j] :: l.drop (j + 1)) := congrArg crc e1
  rw [e3] at h
  exact crc_one h
end Go.Ax
