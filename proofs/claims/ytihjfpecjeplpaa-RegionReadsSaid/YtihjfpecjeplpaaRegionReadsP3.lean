/- What the functions that RegionReads reaches compute (part 3); each for the inputs that its theorem names. -/
import Derived.Test.YtihjfpecjeplpaaRegionReadsP2
set_option linter.unusedSimpArgs false
set_option linter.unusedVariables false

/- The reference's disk: NewDisk. -/
namespace Go.Ax
open Go Go.Proofs

def zv : AV := .vsl 5 ((List.replicate 64 (0 : UInt8)).map U8) .none
theorem zv_bs : Bs zv (List.replicate 64 0) := .inr ⟨_, rfl⟩
theorem rst0 {h : Heap} {p r n : Nat} {x : AV} {f : Int} {w : Bool} (hp : h[p]? = some (rv r n x f w)) (r' m : Nat) (hm : 0 < m) :
    aStore tab 30 (.ref p [0] 30) (.msl r' [] 22 0 m) h = some (h.set p (rv r' m x f w)) := by
  have := store_fld (i := 0) (ty := 30) (u' := 30) (x := .msl r' [] 22 0 m) hp rfl (by simp) rfl
  rw [this]
  simp [rv, sAV, show m ≠ 0 by omega]
theorem app30m (x : AV) (new : List AV) (k : Tok) (h : Heap) : aApp tab 30 30 true x (.vsl 22 new k) h = aAppend tab 22 true x new h := by kernel_rfl
theorem bld74 : aBuild tab 74 [(2, .int .i64 (-1))] = some (.agg 73 [.nils, .nils, .int .i64 (-1), .bool false]) := by kernel_rfl
theorem box74 (h : Heap) : aBoxv tab 74 (.agg 73 [.nils, .nils, .int .i64 (-1), .bool false]) h = some (rp h.length, h ++ [rv 0 0 .nils (-1) false]) := by
  simp [aBoxv, fits, rv, sAV]

/-- One sector more. -/
theorem app_row {h : Heap} {r n : Nat} (hn : n < 1024) (hr : n ≠ 0 → h[r]? = some (.row 22 (List.replicate n zv))) :
    ∃ H, aAppend tab 22 true (sAV r n) [zv] h = some (.msl h.length [] 22 0 (n + 1), H) ∧ H[h.length]? = some (.row 22 (List.replicate (n + 1) zv)) ∧ H.length = h.length + 1 ∧ ∀ i, i < h.length → (n ≠ 0 → i ≠ r) → H[i]? = h[i]? := by
  by_cases h0 : n = 0
  · subst h0
    refine ⟨h ++ [.row 22 [zv]], ?_, by simp, by simp, fun i hi _ => List.getElem?_append_left hi⟩
    simp [aAppend, sAV]
  · refine ⟨h.set r .dead ++ [.row 22 (List.replicate n zv ++ [zv])], ?_, ?_, by simp, fun i hi hne => ?_⟩
    · simp only [aAppend, sAV, if_neg h0, hr h0]
      rw [if_pos ⟨⟨by simp, by simp, by simp⟩, by simp; omega, by simp; omega, by simp, by simp⟩]
      simp
    · rw [List.getElem?_append_right (by simp)]
      simp [List.replicate_succ']
    · rw [List.getElem?_append_left (by simpa using hi), List.getElem?_set_ne (by have := hne h0; omega)]

theorem rnew_loop {b p N : Nat} (hb : b ≤ p) (hN : N ≤ 1024) (call : CallF) (FN : Nat) :
    ∀ (m i n r : Nat) (h : Heap), i + m = N → m < n → b ≤ h.length → h[p]? = some (rv r i .nils (-1) false) → (i ≠ 0 → h[r]? = some (.row 22 (List.replicate i zv)) ∧ b ≤ r) →
    ∃ r' h', (∀ K : Ex → List AV → Heap → Option (AV × Heap), loopK (fun next => runK C0 call false 39 FN B39_1 (seqE next K)) n (st 27 [(0, .int .i64 N), (3, rp p), (4, .int .i64 i)]) h =
      K (.exit 0) (st 27 [(0, .int .i64 N), (3, rp p), (4, .int .i64 N), (13, .bool false)]) h') ∧
      h'[p]? = some (rv r' N .nils (-1) false) ∧ (N ≠ 0 → h'[r']? = some (.row 22 (List.replicate N zv)) ∧ b ≤ r') ∧ Keep (From b) h h' := by
  intro m
  induction m with
  | zero =>
    intro i n r h hi hn hbl hp hr
    obtain ⟨n, rfl⟩ : ∃ j, n = j + 1 := ⟨n - 1, by omega⟩
    obtain rfl : i = N := by omega
    refine ⟨r, h, fun K => ?_, hp, hr, Keep.refl _ _⟩
    rw [loopK_succ]
    generalize loopK (_ : (List AV → Heap → Option (AV × Heap)) → List AV → Heap → Option (AV × Heap)) n = Lp
    have e : decide (((i : Nat) : Int) < (i : Nat)) = false := decide_eq_false (by omega)
    simp -implicitDefEqProofs only [B39_1, ↓runK_seq, runK_seq, ↓runK_cond, runK_cond, ↓runK_block, runK_block, ↓runK_loop, runK_loop, ↓runK_skip, runK_skip, ↓runK_ret, runK_ret, ↓runK_exit, runK_exit, ↓seqE_n, seqE_n, ↓seqE_e, seqE_e, ↓seqE_r, seqE_r, ↓blkE_n, blkE_n, ↓blkE_e, blkE_e, ↓blkE_r, blkE_r, ↓retK_n, retK_n, ↓retK_r, retK_r, ↓aCall_fn, aCall_fn, ↓bnd_s, bnd_s, ↓bnd2_s, bnd2_s, ↓onB_t, onB_t, ↓onB_f, onB_f, ↓onG_tt, onG_tt, ↓onG_tf, onG_tf, ↓onG_ft, onG_ft, ↓onG_ff, onG_ff, ↓onG_s, onG_s, ↓onT_t, onT_t, ↓aPick_t, aPick_t, ↓aPick_f, aPick_f, decide_true, decide_false, st_tmp, results1, results2, List.lookup_cons, List.lookup_nil, Nat.reduceBEq, Bool.false_eq_true, ↓reduceIte, BEq.rfl, Nat.reduceLT, Option.getD_some, Option.getD_none, ↓r39_0, r39_0, ↓r39_1, r39_1, ↓r39_2, r39_2, ↓r39_3a, r39_3a, ↓r39_3b, r39_3b, ↓r39_4, r39_4, ↓r39_5a, r39_5a, ↓r39_5b, r39_5b, ↓r39_6, r39_6, ↓r39_7, r39_7, ↓r39_8, r39_8, ↓r39_9, r39_9, ↓r39_10, r39_10, bin_lss, e]
  | succ m ih =>
    intro i n r h hi hn hbl hp hr
    obtain ⟨n, rfl⟩ : ∃ j, n = j + 1 := ⟨n - 1, by omega⟩
    have e : decide (((i : Nat) : Int) < (N : Nat)) = true := decide_eq_true (by omega)
    have wr : IntKind.i64.wrap ((i : Int) + 1) = ((i + 1 : Nat) : Int) := by rw [wrap_i64] <;> omega
    obtain ⟨H, ap, hnew, hlen, hold⟩ := app_row (h := h) (r := r) (n := i) (by omega) (fun h0 => (hr h0).1)
    have hlt := (List.getElem?_eq_some_iff.1 hp).1
    have hpr : i ≠ 0 → p ≠ r := by
      intro h0 e
      subst e
      have := (hr h0).1
      rw [hp] at this
      cases this
    have hp1 : H[p]? = some (rv r i .nils (-1) false) := by rw [hold p hlt hpr]; exact hp
    have k1 : Keep (From b) h H := ⟨by omega, fun j hj => hold j (by unfold From at hj; omega) (fun h0 e => hj (by subst e; exact (hr h0).2))⟩
    have k2 : Keep (From b) H (H.set p (rv h.length (i + 1) .nils (-1) false)) := Keep.set H _ hb
    have hltH : p < H.length := by omega
    obtain ⟨r', h', g1, g2, g3, g4⟩ := ih (i + 1) n h.length (H.set p (rv h.length (i + 1) .nils (-1) false)) (by omega) (by omega) (by simp; omega) (by simp [hltH])
      (fun _ => ⟨by rw [List.getElem?_set_ne (by omega)]; exact hnew, hbl⟩)
    refine ⟨r', h', fun K => ?_, g2, g3, (k1.trans k2).trans g4⟩
    rw [loopK_succ, ← g1 K]
    generalize loopK (_ : (List AV → Heap → Option (AV × Heap)) → List AV → Heap → Option (AV × Heap)) n = Lp
    have zs : aZeroSl tab 22 (.int .i64 64) (.int .i64 64) = some zv := zerosl
    simp -implicitDefEqProofs only [B39_1, ↓runK_seq, runK_seq, ↓runK_cond, runK_cond, ↓runK_block, runK_block, ↓runK_loop, runK_loop, ↓runK_skip, runK_skip, ↓runK_ret, runK_ret, ↓runK_exit, runK_exit, ↓seqE_n, seqE_n, ↓seqE_e, seqE_e, ↓seqE_r, seqE_r, ↓blkE_n, blkE_n, ↓blkE_e, blkE_e, ↓blkE_r, blkE_r, ↓retK_n, retK_n, ↓retK_r, retK_r, ↓aCall_fn, aCall_fn, ↓bnd_s, bnd_s, ↓bnd2_s, bnd2_s, ↓onB_t, onB_t, ↓onB_f, onB_f, ↓onG_tt, onG_tt, ↓onG_tf, onG_tf, ↓onG_ft, onG_ft, ↓onG_ff, onG_ff, ↓onG_s, onG_s, ↓onT_t, onT_t, ↓aPick_t, aPick_t, ↓aPick_f, aPick_f, decide_true, decide_false, st_tmp, results1, results2, List.lookup_cons, List.lookup_nil, Nat.reduceBEq, Bool.false_eq_true, ↓reduceIte, BEq.rfl, Nat.reduceLT, Option.getD_some, Option.getD_none, ↓r39_0, r39_0, ↓r39_1, r39_1, ↓r39_2, r39_2, ↓r39_3a, r39_3a, ↓r39_3b, r39_3b, ↓r39_4, r39_4, ↓r39_5a, r39_5a, ↓r39_5b, r39_5b, ↓r39_6, r39_6, ↓r39_7, r39_7, ↓r39_8, r39_8, ↓r39_9, r39_9, ↓r39_10, r39_10, bin_lss, e, rp_chk, rpf0, rld0 hp, zs, lit30 zv rfl, app30m, ap, rst0 hp1 h.length (i + 1) (by omega), bin_add, wr]

theorem bsL_rep : ∀ n, BsL (List.replicate n zv) (List.replicate n (List.replicate 64 0))
  | 0 => .nil
  | n + 1 => .cons zv_bs (bsL_rep n)

theorem rnew_ok (n : Int) (h : Heap) (k : Nat) (hk : 1030 < k) :
    ∃ p r h', exFn C0 E0 (k + 1) false 39 [.int .i64 n] h = some (rp p, h') ∧ Rsk (From h.length) h' p r (Dk.new n) ∧ Keep (From h.length) h h' := by
  have n0 : ([AV.int .i64 n] ++ List.replicate (27 - [AV.int .i64 n].length) AV.undef) = st 27 [(0, .int .i64 n)] := rfl
  have hN : newN n ≤ 1024 := by unfold newN; omega
  have k0 : Keep (From h.length) h (h ++ [rv 0 0 .nils (-1) false]) := Keep.app h _ (Up.fresh h)
  obtain ⟨r', h', g1, g2, g3, g4⟩ := rnew_loop (b := h.length) (p := h.length) (N := newN n) (Nat.le_refl _) hN (exFn C0 E0 k) k (newN n) 0 k 0 (h ++ [rv 0 0 .nils (-1) false]) (by omega) (by omega) (by simp) (by simp) (fun h0 => absurd rfl h0)
  rw [show ((0 : Nat) : Int) = 0 from rfl] at g1
  refine ⟨h.length, r', h', exFn_of e39 ?_, ?_, k0.trans g4⟩
  · rw [fnK, n0, s39]
    by_cases q : n < 0
    · have hn0 : ((newN n : Nat) : Int) = 0 := by unfold newN; omega
      rw [hn0] at g1
      have e2 : decide ((1024 : Int) < 0) = false := by decide
      simp -implicitDefEqProofs only [↓runK_seq, runK_seq, ↓runK_cond, runK_cond, ↓runK_block, runK_block, ↓runK_loop, runK_loop, ↓runK_skip, runK_skip, ↓runK_ret, runK_ret, ↓runK_exit, runK_exit, ↓seqE_n, seqE_n, ↓seqE_e, seqE_e, ↓seqE_r, seqE_r, ↓blkE_n, blkE_n, ↓blkE_e, blkE_e, ↓blkE_r, blkE_r, ↓retK_n, retK_n, ↓retK_r, retK_r, ↓aCall_fn, aCall_fn, ↓bnd_s, bnd_s, ↓bnd2_s, bnd2_s, ↓onB_t, onB_t, ↓onB_f, onB_f, ↓onG_tt, onG_tt, ↓onG_tf, onG_tf, ↓onG_ft, onG_ft, ↓onG_ff, onG_ff, ↓onG_s, onG_s, ↓onT_t, onT_t, ↓aPick_t, aPick_t, ↓aPick_f, aPick_f, decide_true, decide_false, st_tmp, results1, results2, List.lookup_cons, List.lookup_nil, Nat.reduceBEq, Bool.false_eq_true, ↓reduceIte, BEq.rfl, Nat.reduceLT, Option.getD_some, Option.getD_none, ↓r39_0, r39_0, ↓r39_1, r39_1, ↓r39_2, r39_2, ↓r39_3a, r39_3a, ↓r39_3b, r39_3b, ↓r39_4, r39_4, ↓r39_5a, r39_5a, ↓r39_5b, r39_5b, ↓r39_6, r39_6, ↓r39_7, r39_7, ↓r39_8, r39_8, ↓r39_9, r39_9, ↓r39_10, r39_10, bin_lss, decide_eq_true q, bin_gtr, e2, bld74, box74]
      rw [g1]
      simp -implicitDefEqProofs only [↓runK_seq, runK_seq, ↓runK_cond, runK_cond, ↓runK_block, runK_block, ↓runK_loop, runK_loop, ↓runK_skip, runK_skip, ↓runK_ret, runK_ret, ↓runK_exit, runK_exit, ↓seqE_n, seqE_n, ↓seqE_e, seqE_e, ↓seqE_r, seqE_r, ↓blkE_n, blkE_n, ↓blkE_e, blkE_e, ↓blkE_r, blkE_r, ↓retK_n, retK_n, ↓retK_r, retK_r, ↓aCall_fn, aCall_fn, ↓bnd_s, bnd_s, ↓bnd2_s, bnd2_s, ↓onB_t, onB_t, ↓onB_f, onB_f, ↓onG_tt, onG_tt, ↓onG_tf, onG_tf, ↓onG_ft, onG_ft, ↓onG_ff, onG_ff, ↓onG_s, onG_s, ↓onT_t, onT_t, ↓aPick_t, aPick_t, ↓aPick_f, aPick_f, decide_true, decide_false, st_tmp, results1, results2, List.lookup_cons, List.lookup_nil, Nat.reduceBEq, Bool.false_eq_true, ↓reduceIte, BEq.rfl, Nat.reduceLT, Option.getD_some, Option.getD_none, ↓r39_0, r39_0, ↓r39_1, r39_1, ↓r39_2, r39_2, ↓r39_3a, r39_3a, ↓r39_3b, r39_3b, ↓r39_4, r39_4, ↓r39_5a, r39_5a, ↓r39_5b, r39_5b, ↓r39_6, r39_6, ↓r39_7, r39_7, ↓r39_8, r39_8, ↓r39_9, r39_9, ↓r39_10, r39_10]
    · by_cases q2 : 1024 < n
      · have hn0 : ((newN n : Nat) : Int) = 1024 := by unfold newN; omega
        rw [hn0] at g1
        simp -implicitDefEqProofs only [↓runK_seq, runK_seq, ↓runK_cond, runK_cond, ↓runK_block, runK_block, ↓runK_loop, runK_loop, ↓runK_skip, runK_skip, ↓runK_ret, runK_ret, ↓runK_exit, runK_exit, ↓seqE_n, seqE_n, ↓seqE_e, seqE_e, ↓seqE_r, seqE_r, ↓blkE_n, blkE_n, ↓blkE_e, blkE_e, ↓blkE_r, blkE_r, ↓retK_n, retK_n, ↓retK_r, retK_r, ↓aCall_fn, aCall_fn, ↓bnd_s, bnd_s, ↓bnd2_s, bnd2_s, ↓onB_t, onB_t, ↓onB_f, onB_f, ↓onG_tt, onG_tt, ↓onG_tf, onG_tf, ↓onG_ft, onG_ft, ↓onG_ff, onG_ff, ↓onG_s, onG_s, ↓onT_t, onT_t, ↓aPick_t, aPick_t, ↓aPick_f, aPick_f, decide_true, decide_false, st_tmp, results1, results2, List.lookup_cons, List.lookup_nil, Nat.reduceBEq, Bool.false_eq_true, ↓reduceIte, BEq.rfl, Nat.reduceLT, Option.getD_some, Option.getD_none, ↓r39_0, r39_0, ↓r39_1, r39_1, ↓r39_2, r39_2, ↓r39_3a, r39_3a, ↓r39_3b, r39_3b, ↓r39_4, r39_4, ↓r39_5a, r39_5a, ↓r39_5b, r39_5b, ↓r39_6, r39_6, ↓r39_7, r39_7, ↓r39_8, r39_8, ↓r39_9, r39_9, ↓r39_10, r39_10, bin_lss, decide_eq_false q, bin_gtr, decide_eq_true q2, bld74, box74]
        rw [g1]
        simp -implicitDefEqProofs only [↓runK_seq, runK_seq, ↓runK_cond, runK_cond, ↓runK_block, runK_block, ↓runK_loop, runK_loop, ↓runK_skip, runK_skip, ↓runK_ret, runK_ret, ↓runK_exit, runK_exit, ↓seqE_n, seqE_n, ↓seqE_e, seqE_e, ↓seqE_r, seqE_r, ↓blkE_n, blkE_n, ↓blkE_e, blkE_e, ↓blkE_r, blkE_r, ↓retK_n, retK_n, ↓retK_r, retK_r, ↓aCall_fn, aCall_fn, ↓bnd_s, bnd_s, ↓bnd2_s, bnd2_s, ↓onB_t, onB_t, ↓onB_f, onB_f, ↓onG_tt, onG_tt, ↓onG_tf, onG_tf, ↓onG_ft, onG_ft, ↓onG_ff, onG_ff, ↓onG_s, onG_s, ↓onT_t, onT_t, ↓aPick_t, aPick_t, ↓aPick_f, aPick_f, decide_true, decide_false, st_tmp, results1, results2, List.lookup_cons, List.lookup_nil, Nat.reduceBEq, Bool.false_eq_true, ↓reduceIte, BEq.rfl, Nat.reduceLT, Option.getD_some, Option.getD_none, ↓r39_0, r39_0, ↓r39_1, r39_1, ↓r39_2, r39_2, ↓r39_3a, r39_3a, ↓r39_3b, r39_3b, ↓r39_4, r39_4, ↓r39_5a, r39_5a, ↓r39_5b, r39_5b, ↓r39_6, r39_6, ↓r39_7, r39_7, ↓r39_8, r39_8, ↓r39_9, r39_9, ↓r39_10, r39_10]
      · have hn0 : ((newN n : Nat) : Int) = n := by unfold newN; omega
        rw [hn0] at g1
        simp -implicitDefEqProofs only [↓runK_seq, runK_seq, ↓runK_cond, runK_cond, ↓runK_block, runK_block, ↓runK_loop, runK_loop, ↓runK_skip, runK_skip, ↓runK_ret, runK_ret, ↓runK_exit, runK_exit, ↓seqE_n, seqE_n, ↓seqE_e, seqE_e, ↓seqE_r, seqE_r, ↓blkE_n, blkE_n, ↓blkE_e, blkE_e, ↓blkE_r, blkE_r, ↓retK_n, retK_n, ↓retK_r, retK_r, ↓aCall_fn, aCall_fn, ↓bnd_s, bnd_s, ↓bnd2_s, bnd2_s, ↓onB_t, onB_t, ↓onB_f, onB_f, ↓onG_tt, onG_tt, ↓onG_tf, onG_tf, ↓onG_ft, onG_ft, ↓onG_ff, onG_ff, ↓onG_s, onG_s, ↓onT_t, onT_t, ↓aPick_t, aPick_t, ↓aPick_f, aPick_f, decide_true, decide_false, st_tmp, results1, results2, List.lookup_cons, List.lookup_nil, Nat.reduceBEq, Bool.false_eq_true, ↓reduceIte, BEq.rfl, Nat.reduceLT, Option.getD_some, Option.getD_none, ↓r39_0, r39_0, ↓r39_1, r39_1, ↓r39_2, r39_2, ↓r39_3a, r39_3a, ↓r39_3b, r39_3b, ↓r39_4, r39_4, ↓r39_5a, r39_5a, ↓r39_5b, r39_5b, ↓r39_6, r39_6, ↓r39_7, r39_7, ↓r39_8, r39_8, ↓r39_9, r39_9, ↓r39_10, r39_10, bin_lss, decide_eq_false q, bin_gtr, decide_eq_false q2, bld74, box74]
        rw [g1]
        simp -implicitDefEqProofs only [↓runK_seq, runK_seq, ↓runK_cond, runK_cond, ↓runK_block, runK_block, ↓runK_loop, runK_loop, ↓runK_skip, runK_skip, ↓runK_ret, runK_ret, ↓runK_exit, runK_exit, ↓seqE_n, seqE_n, ↓seqE_e, seqE_e, ↓seqE_r, seqE_r, ↓blkE_n, blkE_n, ↓blkE_e, blkE_e, ↓blkE_r, blkE_r, ↓retK_n, retK_n, ↓retK_r, retK_r, ↓aCall_fn, aCall_fn, ↓bnd_s, bnd_s, ↓bnd2_s, bnd2_s, ↓onB_t, onB_t, ↓onB_f, onB_f, ↓onG_tt, onG_tt, ↓onG_tf, onG_tf, ↓onG_ft, onG_ft, ↓onG_ff, onG_ff, ↓onG_s, onG_s, ↓onT_t, onT_t, ↓aPick_t, aPick_t, ↓aPick_f, aPick_f, decide_true, decide_false, st_tmp, results1, results2, List.lookup_cons, List.lookup_nil, Nat.reduceBEq, Bool.false_eq_true, ↓reduceIte, BEq.rfl, Nat.reduceLT, Option.getD_some, Option.getD_none, ↓r39_0, r39_0, ↓r39_1, r39_1, ↓r39_2, r39_2, ↓r39_3a, r39_3a, ↓r39_3b, r39_3b, ↓r39_4, r39_4, ↓r39_5a, r39_5a, ↓r39_5b, r39_5b, ↓r39_6, r39_6, ↓r39_7, r39_7, ↓r39_8, r39_8, ↓r39_9, r39_9, ↓r39_10, r39_10]
  · have hne : ∀ {x : Nat}, List.replicate x (List.replicate 64 (0 : UInt8)) ≠ [] → x ≠ 0 := fun h e => h (by rw [e]; rfl)
    refine ⟨Nat.le_refl _, fun hx => (g3 (hne hx)).2, ⟨.nils, [], ?_, .inl ⟨rfl, rfl⟩, .nil⟩, fun hx => ⟨_, (g3 (hne hx)).1, bsL_rep _⟩, fun b hb => ?_, fun w hw => by simp [Dk.new] at hw, by simpa [Dk.new] using hN⟩
    · rw [g2]; simp [Dk.new]
    · simp only [Dk.new, List.mem_replicate] at hb
      rw [hb.2]; simp
end Go.Ax

/- What the regions of some functions hand on. Printed by a program of mine (gen.py). -/
set_option linter.unusedVariables false
namespace Go.Ax
open Go Go.Proofs
/-! ### (*interregnum/interregnumref01.Disk).Crash -/
noncomputable def O43 (i : Nat) : Array Oper := opsOf i (bodyOf Try.f43)
noncomputable def B43_1 : Code := (.seq (.seq (.region 5 (O43 5) false) (.cond (Go.Operand.tmp 20) .skip (.exit 0))) (.seq (.block 1 (.seq (.region 7 (O43 7) false) (.seq (.region 8 (O43 8) false) (.cond (Go.Operand.tmp 32) (.region 9 (O43 9) true) (.seq (.region 10 (O43 10) false) (.cond (Go.Operand.tmp 63) (.region 11 (O43 11) true) .skip)))))) (.region 6 (O43 6) false)))
theorem s43 : bodyOf Try.f43 = (.seq (.seq (.region 0 (O43 0) false) (.cond (Go.Operand.tmp 11) (.region 1 (O43 1) false) .skip)) (.seq (.seq (.region 2 (O43 2) false) (.cond (Go.Operand.tmp 13) (.region 3 (O43 3) false) .skip)) (.seq (.seq (.region 4 (O43 4) false) (.block 0 (.loop B43_1))) (.region 12 (O43 12) false)))) := by kernel_rfl
theorem e43 : E0 43 = some ⟨82, [], bodyOf Try.f43⟩ := by kernel_rfl
theorem r43_0 {β : Type} (call : CallF) (md : Bool) (n : Nat) (k : Ex → List AV → Heap → Option β) (x0 x1 x2 x3 : AV) (h : Heap) :
    runK C0 call md 43 n (.region 0 (O43 0) false) k (st 82 [(0, x0), (1, x1), (2, x2), (3, x3)]) h =
    bnd (aBinC tab .lss 3 x3 (.int .i64 0) true) fun v1 =>
    k .normal (st 82 [(0, x0), (1, x1), (2, x2), (3, x3), (11, v1)]) h
  := by kernel_rfl
theorem r43_1 {β : Type} (call : CallF) (md : Bool) (n : Nat) (k : Ex → List AV → Heap → Option β) (x0 x1 x2 x3 x11 : AV) (h : Heap) :
    runK C0 call md 43 n (.region 1 (O43 1) false) k (st 82 [(0, x0), (1, x1), (2, x2), (3, x3), (11, x11)]) h =
    k .normal (st 82 [(0, x0), (1, x1), (2, x2), (3, (.int .i64 0))]) h
  := by kernel_rfl
theorem r43_2a {β : Type} (call : CallF) (md : Bool) (n : Nat) (k : Ex → List AV → Heap → Option β) (x0 x1 x2 x3 x11 : AV) (h : Heap) :
    runK C0 call md 43 n (.region 2 (O43 2) false) k (st 82 [(0, x0), (1, x1), (2, x2), (3, x3), (11, x11)]) h =
    bnd (aBinC tab .gtr 3 x3 (.int .i64 64) true) fun v1 =>
    k .normal (st 82 [(0, x0), (1, x1), (2, x2), (3, x3), (13, v1)]) h
  := by kernel_rfl
theorem r43_2b {β : Type} (call : CallF) (md : Bool) (n : Nat) (k : Ex → List AV → Heap → Option β) (x0 x1 x2 x3 : AV) (h : Heap) :
    runK C0 call md 43 n (.region 2 (O43 2) false) k (st 82 [(0, x0), (1, x1), (2, x2), (3, x3)]) h =
    bnd (aBinC tab .gtr 3 x3 (.int .i64 64) true) fun v1 =>
    k .normal (st 82 [(0, x0), (1, x1), (2, x2), (3, x3), (13, v1)]) h
  := by kernel_rfl
theorem r43_3 {β : Type} (call : CallF) (md : Bool) (n : Nat) (k : Ex → List AV → Heap → Option β) (x0 x1 x2 x3 x13 : AV) (h : Heap) :
    runK C0 call md 43 n (.region 3 (O43 3) false) k (st 82 [(0, x0), (1, x1), (2, x2), (3, x3), (13, x13)]) h =
    k .normal (st 82 [(0, x0), (1, x1), (2, x2), (3, (.int .i64 64))]) h
  := by kernel_rfl
theorem r43_4a {β : Type} (call : CallF) (md : Bool) (n : Nat) (k : Ex → List AV → Heap → Option β) (x0 x1 x2 x3 x13 : AV) (h : Heap) :
    runK C0 call md 43 n (.region 4 (O43 4) false) k (st 82 [(0, x0), (1, x1), (2, x2), (3, x3), (13, x13)]) h =
    k .normal (st 82 [(0, x0), (1, x1), (2, x2), (3, x3), (8, (.int .i64 0))]) h
  := by kernel_rfl
theorem r43_4b {β : Type} (call : CallF) (md : Bool) (n : Nat) (k : Ex → List AV → Heap → Option β) (x0 x1 x2 x3 : AV) (h : Heap) :
    runK C0 call md 43 n (.region 4 (O43 4) false) k (st 82 [(0, x0), (1, x1), (2, x2), (3, x3)]) h =
    k .normal (st 82 [(0, x0), (1, x1), (2, x2), (3, x3), (8, (.int .i64 0))]) h
  := by kernel_rfl
theorem r43_5 {β : Type} (call : CallF) (md : Bool) (n : Nat) (k : Ex → List AV → Heap → Option β) (x0 x1 x2 x3 x8 : AV) (h : Heap) :
    runK C0 call md 43 n (.region 5 (O43 5) false) k (st 82 [(0, x0), (1, x1), (2, x2), (3, x3), (8, x8)]) h =
    bnd (aNil x0) fun v1 =>
    bnd (aFieldAddr tab 74 v1 1) fun v2 =>
    bnd (aLoad tab 72 v2 h) fun v3 =>
    bnd (aLen tab 72 v3) fun v4 =>
    bnd (aBinC tab .lss 3 x8 v4 false) fun v5 =>
    k .normal (st 82 [(0, x0), (1, x1), (2, x2), (3, x3), (8, x8), (20, v5)]) h
  := by kernel_rfl
theorem r43_6a {β : Type} (call : CallF) (md : Bool) (n : Nat) (k : Ex → List AV → Heap → Option β) (x0 x1 x2 x3 x8 x9 x63 : AV) (h : Heap) :
    runK C0 call md 43 n (.region 6 (O43 6) false) k (st 82 [(0, x0), (1, x1), (2, x2), (3, x3), (8, x8), (9, x9), (63, x63)]) h =
    bnd (aBinC tab .add 3 x8 (.int .i64 1) true) fun v1 =>
    k .normal (st 82 [(0, x0), (1, x1), (2, x2), (3, x3), (8, v1)]) h
  := by kernel_rfl
theorem r43_6b {β : Type} (call : CallF) (md : Bool) (n : Nat) (k : Ex → List AV → Heap → Option β) (x0 x1 x2 x3 x8 : AV) (h : Heap) :
    runK C0 call md 43 n (.region 6 (O43 6) false) k (st 82 [(0, x0), (1, x1), (2, x2), (3, x3), (8, x8)]) h =
    bnd (aBinC tab .add 3 x8 (.int .i64 1) true) fun v1 =>
    k .normal (st 82 [(0, x0), (1, x1), (2, x2), (3, x3), (8, v1)]) h
  := by kernel_rfl
theorem r43_7 {β : Type} (call : CallF) (md : Bool) (n : Nat) (k : Ex → List AV → Heap → Option β) (x0 x1 x2 x3 x8 x20 : AV) (h : Heap) :
    runK C0 call md 43 n (.region 7 (O43 7) false) k (st 82 [(0, x0), (1, x1), (2, x2), (3, x3), (8, x8), (20, x20)]) h =
    bnd (aNil x0) fun v1 =>
    bnd (aFieldAddr tab 74 v1 1) fun v2 =>
    bnd (aLoad tab 72 v2 h) fun v3 =>
    bnd (aIndexAddr tab 72 v3 x8) fun v4 =>
    bnd (aLoad tab 112 v4 h) fun v5 =>
    bnd2 (aAlloc tab 112 h) fun v6 h7 =>
    bnd (aStore tab 112 v6 v5 h7) fun h8 =>
    k .normal (st 82 [(0, x0), (1, x1), (2, x2), (3, x3), (8, x8), (9, v6)]) h8
  := by kernel_rfl
theorem r43_8 {β : Type} (call : CallF) (md : Bool) (n : Nat) (k : Ex → List AV → Heap → Option β) (x0 x1 x2 x3 x8 x9 : AV) (h : Heap) :
    runK C0 call md 43 n (.region 8 (O43 8) false) k (st 82 [(0, x0), (1, x1), (2, x2), (3, x3), (8, x8), (9, x9)]) h =
    bnd (aBinC tab .eql 3 x8 x2 false) fun v1 =>
    k .normal (st 82 [(0, x0), (1, x1), (2, x2), (3, x3), (8, x8), (9, x9), (32, v1)]) h
  := by kernel_rfl
theorem r43_9 {β : Type} (call : CallF) (md : Bool) (n : Nat) (k : Ex → List AV → Heap → Option β) (x0 x1 x2 x3 x8 x9 x32 : AV) (h : Heap) :
    runK C0 call md 43 n (.region 9 (O43 9) true) k (st 82 [(0, x0), (1, x1), (2, x2), (3, x3), (8, x8), (9, x9), (32, x32)]) h =
    bnd (aNil x0) fun v1 =>
    bnd (aFieldAddr tab 74 v1 0) fun v2 =>
    bnd (aLoad tab 30 v2 h) fun v3 =>
    bnd (aFieldAddr tab 112 x9 0) fun v4 =>
    bnd (aLoad tab 3 v4 h) fun v5 =>
    bnd (aLit tab 22 0 []) fun v6 =>
    bnd (aFieldAddr tab 112 x9 1) fun v7 =>
    bnd (aLoad tab 22 v7 h) fun v8 =>
    bnd (aSlice tab 22 v8 none (some x3) none) fun v9 =>
    bnd2 (aApp tab 22 22 md v6 v9 h) fun v10 h11 =>
    bnd (aNil x0) fun v12 =>
    bnd (aFieldAddr tab 74 v12 0) fun v13 =>
    bnd (aLoad tab 30 v13 h11) fun v14 =>
    bnd (aFieldAddr tab 112 x9 0) fun v15 =>
    bnd (aLoad tab 3 v15 h11) fun v16 =>
    bnd (aIndexAddr tab 30 v14 v16) fun v17 =>
    bnd (aLoad tab 22 v17 h11) fun v18 =>
    bnd (aSlice tab 22 v18 (some x3) none none) fun v19 =>
    bnd2 (aApp tab 22 22 md v10 v19 h11) fun v20 h21 =>
    bnd (aIndexAddr tab 30 v3 v5) fun v22 =>
    bnd (aStore tab 22 v22 v20 h21) fun h23 =>
    onT (rdSame (aLoad tab 30 v2 h11) v3) <|
      onT (rdSame (aLoad tab 30 v2 h21) v3) <|
      onT (rdSame (aLoad tab 3 v4 h11) v5) <|
      onT (rdSame (aLoad tab 3 v4 h21) v5) <|
      onT (rdSame (aLoad tab 30 v13 h) v14) <|
      onT (rdSame (aLoad tab 3 v15 h) v16) <|
      onT (rdSame (aLoad tab 22 v17 h) v18) <|
      k .normal (st 82 [(0, x0), (1, x1), (2, x2), (3, x3), (8, x8)]) h23
  := by kernel_rfl
theorem r43_10 {β : Type} (call : CallF) (md : Bool) (n : Nat) (k : Ex → List AV → Heap → Option β) (x0 x1 x2 x3 x8 x9 x32 : AV) (h : Heap) :
    runK C0 call md 43 n (.region 10 (O43 10) false) k (st 82 [(0, x0), (1, x1), (2, x2), (3, x3), (8, x8), (9, x9), (32, x32)]) h =
    bnd (aBinC tab .rem 3 x8 (.int .i64 64) true) fun v1 =>
    bnd (aConv tab 3 78 v1 h) fun v2 =>
    bnd (aBinC tab .shr 44 x1 v2 false) fun v3 =>
    bnd (aBinC tab .rem 44 v3 (.int .u64 2) true) fun v4 =>
    bnd (aBinC tab .eql 44 v4 (.int .u64 1) true) fun v5 =>
    k .normal (st 82 [(0, x0), (1, x1), (2, x2), (3, x3), (8, x8), (9, x9), (63, v5)]) h
  := by kernel_rfl
theorem r43_11 {β : Type} (call : CallF) (md : Bool) (n : Nat) (k : Ex → List AV → Heap → Option β) (x0 x1 x2 x3 x8 x9 x63 : AV) (h : Heap) :
    runK C0 call md 43 n (.region 11 (O43 11) true) k (st 82 [(0, x0), (1, x1), (2, x2), (3, x3), (8, x8), (9, x9), (63, x63)]) h =
    bnd (aNil x0) fun v1 =>
    bnd (aFieldAddr tab 74 v1 0) fun v2 =>
    bnd (aLoad tab 30 v2 h) fun v3 =>
    bnd (aFieldAddr tab 112 x9 0) fun v4 =>
    bnd (aLoad tab 3 v4 h) fun v5 =>
    bnd (aFieldAddr tab 112 x9 1) fun v6 =>
    bnd (aLoad tab 22 v6 h) fun v7 =>
    bnd (aIndexAddr tab 30 v3 v5) fun v8 =>
    bnd (aStore tab 22 v8 v7 h) fun h9 =>
    k .normal (st 82 [(0, x0), (1, x1), (2, x2), (3, x3), (8, x8)]) h9
  := by kernel_rfl
theorem r43_12 {β : Type} (call : CallF) (md : Bool) (n : Nat) (k : Ex → List AV → Heap → Option β) (x0 x1 x2 x3 x8 x20 : AV) (h : Heap) :
    runK C0 call md 43 n (.region 12 (O43 12) false) k (st 82 [(0, x0), (1, x1), (2, x2), (3, x3), (8, x8), (20, x20)]) h =
    bnd (aNil x0) fun v1 =>
    bnd (aFieldAddr tab 74 v1 1) fun v2 =>
    bnd (aStore tab 72 v2 .nils h) fun h3 =>
    bnd (aNil x0) fun v4 =>
    bnd (aFieldAddr tab 74 v4 2) fun v5 =>
    bnd (aStore tab 3 v5 (.int .i64 (-1)) h3) fun h6 =>
    bnd (aNil x0) fun v7 =>
    bnd (aFieldAddr tab 74 v7 3) fun v8 =>
    bnd (aStore tab 4 v8 (.bool false) h6) fun h9 =>
    k .normal (st 82 []) h9
  := by kernel_rfl
end Go.Ax

/- The reference's disk: Crash. -/
namespace Go.Ax
open Go Go.Proofs

theorem ApB.app {S : Obs} {h : Heap} {x : AV} {l : List UInt8} (a : ApB S h x l) (up : Up S h) (new : List UInt8) (hl : l.length + new.length < 2 ^ 40) :
    ∃ x' h', aAppend tab 5 false x (new.map U8) h = some (x', h') ∧ ApB S h' x' (l ++ new) ∧ Keep S h h' ∧ NoTok h h' := by
  cases new with
  | nil =>
    refine ⟨x, h, ?_, by simpa using a, Keep.refl _ _, fun _ _ h _ => h⟩
    rcases a with ⟨rfl, -⟩ | ⟨k, rfl, -⟩ <;> rfl
  | cons y ys => exact a.append up (by simp) hl

theorem alloc112 (h : Heap) : aAlloc tab 112 h = some (.ref h.length [] 111, h ++ [.var 112 (.agg 111 [.int .i64 0, .nils])]) := by kernel_rfl
theorem sn112 (h : Heap) (n : Nat) (v : AV) : aStore tab 112 (.ref h.length [] 111) (.agg 111 [.int .i64 n, v]) (h ++ [.var 112 (.agg 111 [.int .i64 0, .nils])]) = some (h ++ [.var 112 (.agg 111 [.int .i64 n, v])]) :=
  store_new (by simp) (by simp [fits])
theorem load112v (h : Heap) (v : AV) : aLoad tab 112 (.vptr 111 v) h = some v := by simp [aLoad]
theorem fa112_0 (q : Nat) : aFieldAddr tab 112 (.ref q [] 111) 0 = some (.ref q [0] 3) := by simp [aFieldAddr]
theorem fa112_1 (q : Nat) : aFieldAddr tab 112 (.ref q [] 111) 1 = some (.ref q [1] 22) := by simp [aFieldAddr]
theorem ld112_0 {h : Heap} {q : Nat} {a v : AV} (hq : h[q]? = some (.var 112 (.agg 111 [a, v]))) : aLoad tab 3 (.ref q [0] 3) h = some a := load_fld (i := 0) hq rfl (by simp)
theorem ld112_1 {h : Heap} {q : Nat} {a v : AV} (hq : h[q]? = some (.var 112 (.agg 111 [a, v]))) : aLoad tab 22 (.ref q [1] 22) h = some v := load_fld (i := 1) hq rfl (by simp)

theorem conv_3_78 (n : Nat) (hn : n < 2 ^ 63) (h : Heap) : aConv tab 3 78 (.int .i64 n) h = some (.int .u64 n) := by
  simp [aConv, wrap_u64]
  omega
theorem shr_64u (K n : Nat) (hn : n < 64) : aBinC tab .shr 44 (.int .u64 K) (.int .u64 n) false = some (.int .u64 ((K / 2 ^ n : Nat) : Int)) := by
  have e : Go.binOp .shr 44 (.int .u64 (K : Int)) (.int .u64 (n : Int)) = pure (.int .u64 ((K : Int) / 2 ^ n)) := by
    have := Go.shift_shr .u64 .u64 (K : Int) (n : Int) (by omega) (by have : IntKind.u64.bits = 64 := rfl; omega)
    rw [Int.toNat_natCast] at this
    exact this
  simp only [aBinC, aBin, e, ofPure, pure]
  simp
theorem rem2_64 (a : Nat) : aBinC tab .rem 44 (.int .u64 a) (.int .u64 2) true = some (.int .u64 ((a % 2 : Nat) : Int)) := by
  simp [aBinC, aBin, Go.binOp, Op.intDiv, ofPure, pure, wrap_u64]
  rw [Int.tmod_eq_emod_of_nonneg (by omega)]
  try omega

theorem rcrash_loop {S : Obs} {h0 : Heap} {p r : Nat} {y : AV} {vs : List AV} {nL : Nat} {L : List (Nat × List UInt8)} {f : Int} {w : Bool} (hy : Ap 111 S h0 y vs) (hv : LsL vs L) (hL : L.length < 2 ^ 30)
    (hws : ∀ w ∈ L, w.1 < nL ∧ w.2.length = 64) (hs : nL ≠ 0 → S r) (KK : Nat) (torn at' : Int) (call : CallF) (N : Nat) :
    ∀ (m i n : Nat) (h : Heap) (c : List (List UInt8)), i + m = L.length → m < n → Up S h → h[p]? = some (rv r nL y f w) → c.length = nL → (∀ b ∈ c, b.length = 64) → (nL ≠ 0 → ∃ us, h[r]? = some (.row 22 us) ∧ BsL us c) →
    ∃ h', (∀ K : Ex → List AV → Heap → Option (AV × Heap), loopK (fun next => runK C0 call false 43 N B43_1 (seqE next K)) n (st 82 [(0, rp p), (1, .int .u64 KK), (2, .int .i64 torn), (3, .int .i64 (partOf at')), (8, .int .i64 i)]) h =
      K (.exit 0) (st 82 [(0, rp p), (1, .int .u64 KK), (2, .int .i64 torn), (3, .int .i64 (partOf at')), (8, .int .i64 L.length), (20, .bool false)]) h') ∧
      h'[p]? = some (rv r nL y f w) ∧ (nL ≠ 0 → ∃ us, h'[r]? = some (.row 22 us) ∧ BsL us (crashed KK torn at' i c (L.drop i))) ∧ Keep S h h' := by
  have hlen := len72 hy
  rw [hv.length] at hlen
  intro m
  induction m with
  | zero =>
    intro i n h c hi hn up hp hcl hcc hr
    obtain ⟨n, rfl⟩ : ∃ j, n = j + 1 := ⟨n - 1, by omega⟩
    obtain rfl : i = L.length := by omega
    refine ⟨h, fun K => ?_, hp, by rw [List.drop_length]; exact hr, Keep.refl _ _⟩
    rw [loopK_succ]
    generalize loopK (_ : (List AV → Heap → Option (AV × Heap)) → List AV → Heap → Option (AV × Heap)) n = Lp
    have e : decide (((L.length : Nat) : Int) < (L.length : Nat)) = false := decide_eq_false (by omega)
    simp -implicitDefEqProofs only [B43_1, ↓runK_seq, runK_seq, ↓runK_cond, runK_cond, ↓runK_block, runK_block, ↓runK_loop, runK_loop, ↓runK_skip, runK_skip, ↓runK_ret, runK_ret, ↓runK_exit, runK_exit, ↓seqE_n, seqE_n, ↓seqE_e, seqE_e, ↓seqE_r, seqE_r, ↓blkE_n, blkE_n, ↓blkE_e, blkE_e, ↓blkE_r, blkE_r, ↓retK_n, retK_n, ↓retK_r, retK_r, ↓aCall_fn, aCall_fn, ↓bnd_s, bnd_s, ↓bnd2_s, bnd2_s, ↓onB_t, onB_t, ↓onB_f, onB_f, ↓onG_tt, onG_tt, ↓onG_tf, onG_tf, ↓onG_ft, onG_ft, ↓onG_ff, onG_ff, ↓onG_s, onG_s, ↓onT_t, onT_t, ↓aPick_t, aPick_t, ↓aPick_f, aPick_f, decide_true, decide_false, st_tmp, results1, results2, List.lookup_cons, List.lookup_nil, Nat.reduceBEq, Bool.false_eq_true, ↓reduceIte, BEq.rfl, Nat.reduceLT, Option.getD_some, Option.getD_none, ↓r43_0, r43_0, ↓r43_1, r43_1, ↓r43_2a, r43_2a, ↓r43_2b, r43_2b, ↓r43_3, r43_3, ↓r43_4a, r43_4a, ↓r43_4b, r43_4b, ↓r43_5, r43_5, ↓r43_6a, r43_6a, ↓r43_6b, r43_6b, ↓r43_7, r43_7, ↓r43_8, r43_8, ↓r43_9, r43_9, ↓r43_10, r43_10, ↓r43_11, r43_11, ↓r43_12, r43_12, rp_chk, rpf1, rld1 hp, hlen, bin_lss, e]
  | succ m ih =>
    intro i n h c hi hn up hp hcl hcc hr
    obtain ⟨n, rfl⟩ : ∃ j, n = j + 1 := ⟨n - 1, by omega⟩
    have hlt : i < L.length := by omega
    have hw : L[i]? = some L[i] := List.getElem?_eq_getElem hlt
    have hwl := hws _ (List.getElem_mem hlt)
    rw [drop_get hw]
    simp only [crashed]
    have e : decide (((i : Nat) : Int) < (L.length : Nat)) = true := decide_eq_true (by omega)
    have wr : IntKind.i64.wrap ((i : Int) + 1) = ((i + 1 : Nat) : Int) := by rw [wrap_i64] <;> omega
    obtain ⟨v, hv1, bv⟩ := hv.get hw
    generalize L[i] = u at *
    have hne : nL ≠ 0 := by omega
    obtain ⟨us, hus, bus⟩ := hr hne
    have hul : us.length = nL := by rw [bus.length, hcl]
    have huc : u.1 < c.length := by omega
    have hcv : c[u.1].length = 64 := hcc _ (List.getElem_mem huc)
    have hget : (c[u.1]?).getD [] = c[u.1] := by rw [List.getElem?_eq_getElem huc]; rfl
    obtain ⟨z, hz, bz⟩ := bus.get (List.getElem?_eq_getElem huc)
    have k1 : Keep (From h.length) h (h ++ [.var 112 (.agg 111 [.int .i64 u.1, v])]) := Keep.app h _ (Up.fresh h)
    have hq : (h ++ [.var 112 (.agg 111 [.int .i64 u.1, v])])[h.length]? = some (.var 112 (.agg 111 [.int .i64 u.1, v])) := by simp
    have hsn := sn112 h u.1 v
    have hp1 : (h ++ [.var 112 (.agg 111 [.int .i64 u.1, v])])[p]? = some (rv r nL y f w) := by rw [List.getElem?_append_left (List.getElem?_eq_some_iff.1 hp).1]; exact hp
    have hr1 : (h ++ [.var 112 (.agg 111 [.int .i64 u.1, v])])[r]? = some (.row 22 us) := by rw [List.getElem?_append_left (List.getElem?_eq_some_iff.1 hus).1]; exact hus
    have kk := k1.up up
    generalize h ++ [Obj.var 112 (.agg 111 [.int .i64 u.1, v])] = H at *
    have hrp : r ≠ p := by intro e; subst e; rw [hp1] at hr1; cases hr1
    have upH := up.keep kk
    have next : ∀ (H' : Heap) (z' : AV) (b' : List UInt8), H'[r]? = some (.row 22 us) → H'[p]? = some (rv r nL y f w) → Keep S H H' → Bs z' b' → crashStep KK torn at' i c u = c.set u.1 b' →
        ∃ h', (∀ K : Ex → List AV → Heap → Option (AV × Heap), loopK (fun next => runK C0 call false 43 N B43_1 (seqE next K)) n (st 82 [(0, rp p), (1, .int .u64 KK), (2, .int .i64 torn), (3, .int .i64 (partOf at')), (8, .int .i64 ((i + 1 : Nat) : Int))]) (H'.set r (.row 22 (us.set u.1 z'))) =
          K (.exit 0) (st 82 [(0, rp p), (1, .int .u64 KK), (2, .int .i64 torn), (3, .int .i64 (partOf at')), (8, .int .i64 L.length), (20, .bool false)]) h') ∧
          h'[p]? = some (rv r nL y f w) ∧ (nL ≠ 0 → ∃ us, h'[r]? = some (.row 22 us) ∧ BsL us (crashed KK torn at' (i + 1) (crashStep KK torn at' i c u) (L.drop (i + 1)))) ∧ Keep S h h' := by
      intro H' z' b' hr' hp' kH bz' hcs
      have k2 : Keep S H' (H'.set r (.row 22 (us.set u.1 z'))) := Keep.set H' _ (hs hne)
      have hltr := (List.getElem?_eq_some_iff.1 hr').1
      obtain ⟨h', g1, g2, g3, g4⟩ := ih (i + 1) n (H'.set r (.row 22 (us.set u.1 z'))) (crashStep KK torn at' i c u) (by omega) (by omega) ((upH.keep kH).keep k2) (by rw [List.getElem?_set_ne hrp]; exact hp')
        (by rw [crashStep_length]; exact hcl) (crashStep_cells KK torn at' i c u hcc hwl.2 huc) (fun _ => ⟨us.set u.1 z', by simp [hltr], by rw [hcs]; exact bus.set _ bz'⟩)
      exact ⟨h', g1, g2, g3, (kk.trans kH).trans (k2.trans g4)⟩
    have hpl := partOf_le at'
    by_cases ht : (i : Int) = torn
    · have e1 : decide ((i : Int) = torn) = true := decide_eq_true ht
      obtain ⟨t1, st1, bt1⟩ := bv.to (partOf at') (by omega)
      obtain ⟨t2, st2, bt2⟩ := bz.from (partOf at') (by omega)
      have a0 : ApB S H (.vsl 5 [] .exact) [] := .inr ⟨_, rfl, .inl rfl⟩
      have by1 : By (fun _ => False) H t1 (u.2.take (partOf at')) := .inl bt1
      obtain ⟨x1, H1, p1, ax1, kx1, nt1⟩ := a0.app upH (u.2.take (partOf at')) (by simp; omega)
      have by2 : By (fun _ => False) H1 t2 (c[u.1].drop (partOf at')) := .inl bt2
      obtain ⟨x2, H2, p2, ax2, kx2, nt2⟩ := ApB.app (l := [] ++ u.2.take (partOf at')) ax1 (upH.keep kx1) (c[u.1].drop (partOf at')) (by simp; omega)
      have hq1 := nt1 _ _ hq (fun g e => by cases e)
      have hq2 := nt2 _ _ hq1 (fun g e => by cases e)
      have hp2 := nt1 _ _ hp1 (fun g e => by cases e)
      have hp3 := nt2 _ _ hp2 (fun g e => by cases e)
      have hr2 := nt1 _ _ hr1 (fun g e => by cases e)
      have hr3 := nt2 _ _ hr2 (fun g e => by cases e)
      have bx2 : Bs x2 ([] ++ u.2.take (partOf at') ++ c[u.1].drop (partOf at')) := Ap.bs ax2
      have hcs : crashStep KK torn at' i c u = c.set u.1 ([] ++ u.2.take (partOf at') ++ c[u.1].drop (partOf at')) := by unfold crashStep; rw [if_pos ht, hget]; simp
      obtain ⟨h', g1, g2, g3, g4⟩ := next H2 x2 _ hr3 hp3 (kx1.trans kx2) bx2 hcs
      refine ⟨h', fun K => ?_, g2, g3, g4⟩
      rw [loopK_succ, ← g1 K]
      generalize loopK (_ : (List AV → Heap → Option (AV × Heap)) → List AV → Heap → Option (AV × Heap)) n = Lp
      have sr := store_row (i := u.1) hr3 (by omega) bx2.fits
      simp -implicitDefEqProofs only [B43_1, ↓runK_seq, runK_seq, ↓runK_cond, runK_cond, ↓runK_block, runK_block, ↓runK_loop, runK_loop, ↓runK_skip, runK_skip, ↓runK_ret, runK_ret, ↓runK_exit, runK_exit, ↓seqE_n, seqE_n, ↓seqE_e, seqE_e, ↓seqE_r, seqE_r, ↓blkE_n, blkE_n, ↓blkE_e, blkE_e, ↓blkE_r, blkE_r, ↓retK_n, retK_n, ↓retK_r, retK_r, ↓aCall_fn, aCall_fn, ↓bnd_s, bnd_s, ↓bnd2_s, bnd2_s, ↓onB_t, onB_t, ↓onB_f, onB_f, ↓onG_tt, onG_tt, ↓onG_tf, onG_tf, ↓onG_ft, onG_ft, ↓onG_ff, onG_ff, ↓onG_s, onG_s, ↓onT_t, onT_t, ↓aPick_t, aPick_t, ↓aPick_f, aPick_f, decide_true, decide_false, st_tmp, results1, results2, List.lookup_cons, List.lookup_nil, Nat.reduceBEq, Bool.false_eq_true, ↓reduceIte, BEq.rfl, Nat.reduceLT, Option.getD_some, Option.getD_none, ↓r43_0, r43_0, ↓r43_1, r43_1, ↓r43_2a, r43_2a, ↓r43_2b, r43_2b, ↓r43_3, r43_3, ↓r43_4a, r43_4a, ↓r43_4b, r43_4b, ↓r43_5, r43_5, ↓r43_6a, r43_6a, ↓r43_6b, r43_6b, ↓r43_7, r43_7, ↓r43_8, r43_8, ↓r43_9, r43_9, ↓r43_10, r43_10, ↓r43_11, r43_11, ↓r43_12, r43_12, rp_chk, rpf1, rld1 hp, hlen, bin_lss, e, idx72 hy hv1, load112v, alloc112, hsn, bin_eql, e1, rpf0, rld0 hp1, rld0 hp2, rld0 hp3, fa112_0, fa112_1, ld112_0 hq, ld112_1 hq, ld112_0 hq1, ld112_0 hq2, lit22_0, st1, app22s by1.src, p1,
        idxs r _ u.1 hwl.1, load_row hr2 hz, load_row hr1 hz, st2, app22s by2.src, p2, sr, rdSame_refl, bin_add, wr]
    · have e1 : decide ((i : Int) = torn) = false := decide_eq_false ht
      by_cases hk : KK / 2 ^ (i % 64) % 2 = 1
      · have e2 : decide (((KK / 2 ^ (i % 64) % 2 : Nat) : Int) = 1) = true := decide_eq_true (by omega)
        have hcs : crashStep KK torn at' i c u = c.set u.1 u.2 := by unfold crashStep; rw [if_neg ht, if_pos hk]
        obtain ⟨h', g1, g2, g3, g4⟩ := next H v _ hr1 hp1 (Keep.refl _ _) bv hcs
        refine ⟨h', fun K => ?_, g2, g3, g4⟩
        rw [loopK_succ, ← g1 K]
        generalize loopK (_ : (List AV → Heap → Option (AV × Heap)) → List AV → Heap → Option (AV × Heap)) n = Lp
        have sr := store_row (i := u.1) hr1 (by omega) bv.fits
        simp -implicitDefEqProofs only [B43_1, ↓runK_seq, runK_seq, ↓runK_cond, runK_cond, ↓runK_block, runK_block, ↓runK_loop, runK_loop, ↓runK_skip, runK_skip, ↓runK_ret, runK_ret, ↓runK_exit, runK_exit, ↓seqE_n, seqE_n, ↓seqE_e, seqE_e, ↓seqE_r, seqE_r, ↓blkE_n, blkE_n, ↓blkE_e, blkE_e, ↓blkE_r, blkE_r, ↓retK_n, retK_n, ↓retK_r, retK_r, ↓aCall_fn, aCall_fn, ↓bnd_s, bnd_s, ↓bnd2_s, bnd2_s, ↓onB_t, onB_t, ↓onB_f, onB_f, ↓onG_tt, onG_tt, ↓onG_tf, onG_tf, ↓onG_ft, onG_ft, ↓onG_ff, onG_ff, ↓onG_s, onG_s, ↓onT_t, onT_t, ↓aPick_t, aPick_t, ↓aPick_f, aPick_f, decide_true, decide_false, st_tmp, results1, results2, List.lookup_cons, List.lookup_nil, Nat.reduceBEq, Bool.false_eq_true, ↓reduceIte, BEq.rfl, Nat.reduceLT, Option.getD_some, Option.getD_none, ↓r43_0, r43_0, ↓r43_1, r43_1, ↓r43_2a, r43_2a, ↓r43_2b, r43_2b, ↓r43_3, r43_3, ↓r43_4a, r43_4a, ↓r43_4b, r43_4b, ↓r43_5, r43_5, ↓r43_6a, r43_6a, ↓r43_6b, r43_6b, ↓r43_7, r43_7, ↓r43_8, r43_8, ↓r43_9, r43_9, ↓r43_10, r43_10, ↓r43_11, r43_11, ↓r43_12, r43_12, rp_chk, rpf1, rld1 hp, hlen, bin_lss, e, idx72 hy hv1, load112v, alloc112, hsn, bin_eql, e1, rem_64 i (by omega), conv_3_78 (i % 64) (by omega), shr_64u KK (i % 64) (by omega), rem2_64, e2,
          rpf0, rld0 hp1, fa112_0, fa112_1, ld112_0 hq, ld112_1 hq, idxs r _ u.1 hwl.1, sr, bin_add, wr]
      · have e2 : decide (((KK / 2 ^ (i % 64) % 2 : Nat) : Int) = 1) = false := decide_eq_false (by omega)
        have hcs : crashStep KK torn at' i c u = c := by unfold crashStep; rw [if_neg ht, if_neg hk]
        obtain ⟨h', g1, g2, g3, g4⟩ := ih (i + 1) n H c (by omega) (by omega) upH hp1 hcl hcc (fun _ => ⟨us, hr1, bus⟩)
        refine ⟨h', fun K => ?_, g2, by rw [hcs]; exact g3, kk.trans g4⟩
        rw [loopK_succ, ← g1 K]
        generalize loopK (_ : (List AV → Heap → Option (AV × Heap)) → List AV → Heap → Option (AV × Heap)) n = Lp
        simp -implicitDefEqProofs only [B43_1, ↓runK_seq, runK_seq, ↓runK_cond, runK_cond, ↓runK_block, runK_block, ↓runK_loop, runK_loop, ↓runK_skip, runK_skip, ↓runK_ret, runK_ret, ↓runK_exit, runK_exit, ↓seqE_n, seqE_n, ↓seqE_e, seqE_e, ↓seqE_r, seqE_r, ↓blkE_n, blkE_n, ↓blkE_e, blkE_e, ↓blkE_r, blkE_r, ↓retK_n, retK_n, ↓retK_r, retK_r, ↓aCall_fn, aCall_fn, ↓bnd_s, bnd_s, ↓bnd2_s, bnd2_s, ↓onB_t, onB_t, ↓onB_f, onB_f, ↓onG_tt, onG_tt, ↓onG_tf, onG_tf, ↓onG_ft, onG_ft, ↓onG_ff, onG_ff, ↓onG_s, onG_s, ↓onT_t, onT_t, ↓aPick_t, aPick_t, ↓aPick_f, aPick_f, decide_true, decide_false, st_tmp, results1, results2, List.lookup_cons, List.lookup_nil, Nat.reduceBEq, Bool.false_eq_true, ↓reduceIte, BEq.rfl, Nat.reduceLT, Option.getD_some, Option.getD_none, ↓r43_0, r43_0, ↓r43_1, r43_1, ↓r43_2a, r43_2a, ↓r43_2b, r43_2b, ↓r43_3, r43_3, ↓r43_4a, r43_4a, ↓r43_4b, r43_4b, ↓r43_5, r43_5, ↓r43_6a, r43_6a, ↓r43_6b, r43_6b, ↓r43_7, r43_7, ↓r43_8, r43_8, ↓r43_9, r43_9, ↓r43_10, r43_10, ↓r43_11, r43_11, ↓r43_12, r43_12, rp_chk, rpf1, rld1 hp, hlen, bin_lss, e, idx72 hy hv1, load112v, alloc112, hsn, bin_eql, e1, rem_64 i (by omega), conv_3_78 (i % 64) (by omega), shr_64u KK (i % 64) (by omega), rem2_64, e2, bin_add, wr]

theorem rcrash_ok {S : Obs} {p r : Nat} {h : Heap} {d : Dk} (D : Rsk S h p r d) (up : Up S h) (hl : d.loose.length < 2 ^ 30) (KK : Nat) (torn at' : Int) (k : Nat) (hk : d.loose.length < k) :
    ∃ h', exFn C0 E0 (k + 1) false 43 [rp p, .int .u64 KK, .int .i64 torn, .int .i64 at'] h = some (.tuple [], h') ∧ Rsk S h' p r (d.crash KK torn at') ∧ Keep S h h' := by
  obtain ⟨y, vs, hy, ha, hv⟩ := D.var
  have n0 : ([rp p, .int .u64 KK, .int .i64 torn, .int .i64 at'] ++ List.replicate (82 - [rp p, AV.int .u64 KK, .int .i64 torn, .int .i64 at'].length) AV.undef) = st 82 [(0, rp p), (1, .int .u64 KK), (2, .int .i64 torn), (3, .int .i64 at')] := rfl
  have hz : ∀ {l : List (List UInt8)}, l.length ≠ 0 → l ≠ [] := fun h e => h (by rw [e]; rfl)
  obtain ⟨h1, f1, f2, f3, f4⟩ := rcrash_loop (f := d.fuse) (w := d.down) ha hv hl D.loose (fun h => D.hr (hz h)) KK torn at' (exFn C0 E0 k) k d.loose.length 0 k h d.lasts (by omega) hk up hy rfl D.cells (fun h => D.row (hz h))
  rw [show ((0 : Nat) : Int) = 0 from rfl] at f1
  have hlt : p < h1.length := (List.getElem?_eq_some_iff.1 f2).1
  have hx1 : (h1.set p (rv r d.lasts.length .nils d.fuse d.down))[p]? = some (rv r d.lasts.length .nils d.fuse d.down) := by simp [hlt]
  have hx2 : (h1.set p (rv r d.lasts.length .nils (-1) d.down))[p]? = some (rv r d.lasts.length .nils (-1) d.down) := by simp [hlt]
  have t1 := rst1 f2 (y := .nils) rfl
  have t2 := rst2 hx1 (-1)
  rw [List.set_set] at t2
  have t3 := rst3 hx2 false
  rw [List.set_set] at t3
  have hcl : (crashed KK torn at' 0 d.lasts d.loose).length = d.lasts.length := crashed_length _ _ _ _ _ _
  have hcells : ∀ (ws : List (Nat × List UInt8)) (k : Nat) (l : List (List UInt8)), l.length = d.lasts.length → (∀ b ∈ l, b.length = 64) → (∀ w ∈ ws, w.1 < d.lasts.length ∧ w.2.length = 64) → ∀ b ∈ crashed KK torn at' k l ws, b.length = 64 := by
    intro ws
    induction ws with
    | nil => intro k l _ h _; exact h
    | cons w ws ih =>
      intro k l e h hw
      have h0 := hw w List.mem_cons_self
      exact ih (k + 1) _ (by rw [crashStep_length]; exact e) (crashStep_cells KK torn at' k l w h h0.2 (by omega)) fun v hv => hw v (List.mem_cons_of_mem _ hv)
  refine ⟨h1.set p (rv r d.lasts.length .nils (-1) false), exFn_of e43 ?_, ?_, f4.trans (Keep.set h1 _ D.hp)⟩
  · rw [fnK, n0, s43]
    by_cases q : at' < 0
    · have hp : ((partOf at' : Nat) : Int) = 0 := by unfold partOf; omega
      rw [hp] at f1
      have e2 : decide ((64 : Int) < 0) = false := by decide
      simp -implicitDefEqProofs only [↓runK_seq, runK_seq, ↓runK_cond, runK_cond, ↓runK_block, runK_block, ↓runK_loop, runK_loop, ↓runK_skip, runK_skip, ↓runK_ret, runK_ret, ↓runK_exit, runK_exit, ↓seqE_n, seqE_n, ↓seqE_e, seqE_e, ↓seqE_r, seqE_r, ↓blkE_n, blkE_n, ↓blkE_e, blkE_e, ↓blkE_r, blkE_r, ↓retK_n, retK_n, ↓retK_r, retK_r, ↓aCall_fn, aCall_fn, ↓bnd_s, bnd_s, ↓bnd2_s, bnd2_s, ↓onB_t, onB_t, ↓onB_f, onB_f, ↓onG_tt, onG_tt, ↓onG_tf, onG_tf, ↓onG_ft, onG_ft, ↓onG_ff, onG_ff, ↓onG_s, onG_s, ↓onT_t, onT_t, ↓aPick_t, aPick_t, ↓aPick_f, aPick_f, decide_true, decide_false, st_tmp, results1, results2, List.lookup_cons, List.lookup_nil, Nat.reduceBEq, Bool.false_eq_true, ↓reduceIte, BEq.rfl, Nat.reduceLT, Option.getD_some, Option.getD_none, ↓r43_0, r43_0, ↓r43_1, r43_1, ↓r43_2a, r43_2a, ↓r43_2b, r43_2b, ↓r43_3, r43_3, ↓r43_4a, r43_4a, ↓r43_4b, r43_4b, ↓r43_5, r43_5, ↓r43_6a, r43_6a, ↓r43_6b, r43_6b, ↓r43_7, r43_7, ↓r43_8, r43_8, ↓r43_9, r43_9, ↓r43_10, r43_10, ↓r43_11, r43_11, ↓r43_12, r43_12, bin_lss, decide_eq_true q, bin_gtr, e2]
      rw [f1]
      simp -implicitDefEqProofs only [↓runK_seq, runK_seq, ↓runK_cond, runK_cond, ↓runK_block, runK_block, ↓runK_loop, runK_loop, ↓runK_skip, runK_skip, ↓runK_ret, runK_ret, ↓runK_exit, runK_exit, ↓seqE_n, seqE_n, ↓seqE_e, seqE_e, ↓seqE_r, seqE_r, ↓blkE_n, blkE_n, ↓blkE_e, blkE_e, ↓blkE_r, blkE_r, ↓retK_n, retK_n, ↓retK_r, retK_r, ↓aCall_fn, aCall_fn, ↓bnd_s, bnd_s, ↓bnd2_s, bnd2_s, ↓onB_t, onB_t, ↓onB_f, onB_f, ↓onG_tt, onG_tt, ↓onG_tf, onG_tf, ↓onG_ft, onG_ft, ↓onG_ff, onG_ff, ↓onG_s, onG_s, ↓onT_t, onT_t, ↓aPick_t, aPick_t, ↓aPick_f, aPick_f, decide_true, decide_false, st_tmp, results1, results2, List.lookup_cons, List.lookup_nil, Nat.reduceBEq, Bool.false_eq_true, ↓reduceIte, BEq.rfl, Nat.reduceLT, Option.getD_some, Option.getD_none, ↓r43_0, r43_0, ↓r43_1, r43_1, ↓r43_2a, r43_2a, ↓r43_2b, r43_2b, ↓r43_3, r43_3, ↓r43_4a, r43_4a, ↓r43_4b, r43_4b, ↓r43_5, r43_5, ↓r43_6a, r43_6a, ↓r43_6b, r43_6b, ↓r43_7, r43_7, ↓r43_8, r43_8, ↓r43_9, r43_9, ↓r43_10, r43_10, ↓r43_11, r43_11, ↓r43_12, r43_12, rp_chk, rpf1, rpf2, rpf3, t1, t2, t3, results0]
    · by_cases q2 : 64 < at'
      · have hp : ((partOf at' : Nat) : Int) = 64 := by unfold partOf; omega
        rw [hp] at f1
        simp -implicitDefEqProofs only [↓runK_seq, runK_seq, ↓runK_cond, runK_cond, ↓runK_block, runK_block, ↓runK_loop, runK_loop, ↓runK_skip, runK_skip, ↓runK_ret, runK_ret, ↓runK_exit, runK_exit, ↓seqE_n, seqE_n, ↓seqE_e, seqE_e, ↓seqE_r, seqE_r, ↓blkE_n, blkE_n, ↓blkE_e, blkE_e, ↓blkE_r, blkE_r, ↓retK_n, retK_n, ↓retK_r, retK_r, ↓aCall_fn, aCall_fn, ↓bnd_s, bnd_s, ↓bnd2_s, bnd2_s, ↓onB_t, onB_t, ↓onB_f, onB_f, ↓onG_tt, onG_tt, ↓onG_tf, onG_tf, ↓onG_ft, onG_ft, ↓onG_ff, onG_ff, ↓onG_s, onG_s, ↓onT_t, onT_t, ↓aPick_t, aPick_t, ↓aPick_f, aPick_f, decide_true, decide_false, st_tmp, results1, results2, List.lookup_cons, List.lookup_nil, Nat.reduceBEq, Bool.false_eq_true, ↓reduceIte, BEq.rfl, Nat.reduceLT, Option.getD_some, Option.getD_none, ↓r43_0, r43_0, ↓r43_1, r43_1, ↓r43_2a, r43_2a, ↓r43_2b, r43_2b, ↓r43_3, r43_3, ↓r43_4a, r43_4a, ↓r43_4b, r43_4b, ↓r43_5, r43_5, ↓r43_6a, r43_6a, ↓r43_6b, r43_6b, ↓r43_7, r43_7, ↓r43_8, r43_8, ↓r43_9, r43_9, ↓r43_10, r43_10, ↓r43_11, r43_11, ↓r43_12, r43_12, bin_lss, decide_eq_false q, bin_gtr, decide_eq_true q2]
        rw [f1]
        simp -implicitDefEqProofs only [↓runK_seq, runK_seq, ↓runK_cond, runK_cond, ↓runK_block, runK_block, ↓runK_loop, runK_loop, ↓runK_skip, runK_skip, ↓runK_ret, runK_ret, ↓runK_exit, runK_exit, ↓seqE_n, seqE_n, ↓seqE_e, seqE_e, ↓seqE_r, seqE_r, ↓blkE_n, blkE_n, ↓blkE_e, blkE_e, ↓blkE_r, blkE_r, ↓retK_n, retK_n, ↓retK_r, retK_r, ↓aCall_fn, aCall_fn, ↓bnd_s, bnd_s, ↓bnd2_s, bnd2_s, ↓onB_t, onB_t, ↓onB_f, onB_f, ↓onG_tt, onG_tt, ↓onG_tf, onG_tf, ↓onG_ft, onG_ft, ↓onG_ff, onG_ff, ↓onG_s, onG_s, ↓onT_t, onT_t, ↓aPick_t, aPick_t, ↓aPick_f, aPick_f, decide_true, decide_false, st_tmp, results1, results2, List.lookup_cons, List.lookup_nil, Nat.reduceBEq, Bool.false_eq_true, ↓reduceIte, BEq.rfl, Nat.reduceLT, Option.getD_some, Option.getD_none, ↓r43_0, r43_0, ↓r43_1, r43_1, ↓r43_2a, r43_2a, ↓r43_2b, r43_2b, ↓r43_3, r43_3, ↓r43_4a, r43_4a, ↓r43_4b, r43_4b, ↓r43_5, r43_5, ↓r43_6a, r43_6a, ↓r43_6b, r43_6b, ↓r43_7, r43_7, ↓r43_8, r43_8, ↓r43_9, r43_9, ↓r43_10, r43_10, ↓r43_11, r43_11, ↓r43_12, r43_12, rp_chk, rpf1, rpf2, rpf3, t1, t2, t3, results0]
      · have hp : ((partOf at' : Nat) : Int) = at' := by unfold partOf; omega
        rw [hp] at f1
        simp -implicitDefEqProofs only [↓runK_seq, runK_seq, ↓runK_cond, runK_cond, ↓runK_block, runK_block, ↓runK_loop, runK_loop, ↓runK_skip, runK_skip, ↓runK_ret, runK_ret, ↓runK_exit, runK_exit, ↓seqE_n, seqE_n, ↓seqE_e, seqE_e, ↓seqE_r, seqE_r, ↓blkE_n, blkE_n, ↓blkE_e, blkE_e, ↓blkE_r, blkE_r, ↓retK_n, retK_n, ↓retK_r, retK_r, ↓aCall_fn, aCall_fn, ↓bnd_s, bnd_s, ↓bnd2_s, bnd2_s, ↓onB_t, onB_t, ↓onB_f, onB_f, ↓onG_tt, onG_tt, ↓onG_tf, onG_tf, ↓onG_ft, onG_ft, ↓onG_ff, onG_ff, ↓onG_s, onG_s, ↓onT_t, onT_t, ↓aPick_t, aPick_t, ↓aPick_f, aPick_f, decide_true, decide_false, st_tmp, results1, results2, List.lookup_cons, List.lookup_nil, Nat.reduceBEq, Bool.false_eq_true, ↓reduceIte, BEq.rfl, Nat.reduceLT, Option.getD_some, Option.getD_none, ↓r43_0, r43_0, ↓r43_1, r43_1, ↓r43_2a, r43_2a, ↓r43_2b, r43_2b, ↓r43_3, r43_3, ↓r43_4a, r43_4a, ↓r43_4b, r43_4b, ↓r43_5, r43_5, ↓r43_6a, r43_6a, ↓r43_6b, r43_6b, ↓r43_7, r43_7, ↓r43_8, r43_8, ↓r43_9, r43_9, ↓r43_10, r43_10, ↓r43_11, r43_11, ↓r43_12, r43_12, bin_lss, decide_eq_false q, bin_gtr, decide_eq_false q2]
        rw [f1]
        simp -implicitDefEqProofs only [↓runK_seq, runK_seq, ↓runK_cond, runK_cond, ↓runK_block, runK_block, ↓runK_loop, runK_loop, ↓runK_skip, runK_skip, ↓runK_ret, runK_ret, ↓runK_exit, runK_exit, ↓seqE_n, seqE_n, ↓seqE_e, seqE_e, ↓seqE_r, seqE_r, ↓blkE_n, blkE_n, ↓blkE_e, blkE_e, ↓blkE_r, blkE_r, ↓retK_n, retK_n, ↓retK_r, retK_r, ↓aCall_fn, aCall_fn, ↓bnd_s, bnd_s, ↓bnd2_s, bnd2_s, ↓onB_t, onB_t, ↓onB_f, onB_f, ↓onG_tt, onG_tt, ↓onG_tf, onG_tf, ↓onG_ft, onG_ft, ↓onG_ff, onG_ff, ↓onG_s, onG_s, ↓onT_t, onT_t, ↓aPick_t, aPick_t, ↓aPick_f, aPick_f, decide_true, decide_false, st_tmp, results1, results2, List.lookup_cons, List.lookup_nil, Nat.reduceBEq, Bool.false_eq_true, ↓reduceIte, BEq.rfl, Nat.reduceLT, Option.getD_some, Option.getD_none, ↓r43_0, r43_0, ↓r43_1, r43_1, ↓r43_2a, r43_2a, ↓r43_2b, r43_2b, ↓r43_3, r43_3, ↓r43_4a, r43_4a, ↓r43_4b, r43_4b, ↓r43_5, r43_5, ↓r43_6a, r43_6a, ↓r43_6b, r43_6b, ↓r43_7, r43_7, ↓r43_8, r43_8, ↓r43_9, r43_9, ↓r43_10, r43_10, ↓r43_11, r43_11, ↓r43_12, r43_12, rp_chk, rpf1, rpf2, rpf3, t1, t2, t3, results0]
  · refine ⟨D.hp, fun hne => D.hr (hz (by rw [← hcl]; intro e; exact hne (List.eq_nil_of_length_eq_zero e))), ⟨.nils, [], ?_, .inl ⟨rfl, rfl⟩, .nil⟩, fun hne => ?_, hcells _ _ _ rfl D.cells D.loose, fun w hw => (List.not_mem_nil hw).elim, by show (crashed KK torn at' 0 d.lasts d.loose).length ≤ 1024; rw [hcl]; exact D.few⟩
    · show (h1.set p (rv r d.lasts.length .nils (-1) false))[p]? = some (rv r (crashed KK torn at' 0 d.lasts d.loose).length .nils (-1) false)
      rw [hcl, List.getElem?_set_self hlt]
    · have hne' : d.lasts.length ≠ 0 := by rw [← hcl]; intro e; exact hne (List.eq_nil_of_length_eq_zero e)
      obtain ⟨us, hr, bu⟩ := f3 hne'
      refine ⟨us, ?_, bu⟩
      rw [List.getElem?_set_ne]
      · exact hr
      · intro e
        subst e
        rw [f2] at hr
        cases hr
end Go.Ax

/- What the regions of some functions hand on. Printed by a program of mine (gen.py). -/
set_option linter.unusedVariables false
namespace Go.Ax
open Go Go.Proofs
/-! ### interregnum/interregnumref01.Num -/
noncomputable def O58 (i : Nat) : Array Oper := opsOf i (bodyOf Try.f58)
theorem s58 : bodyOf Try.f58 = (.seq (.region 0 (O58 0) false) (.seq (.region 1 (O58 1) true) .ret)) := by kernel_rfl
theorem e58 : E0 58 = some ⟨25, [2], bodyOf Try.f58⟩ := by kernel_rfl
theorem r58_0 {β : Type} (call : CallF) (md : Bool) (n : Nat) (k : Ex → List AV → Heap → Option β) (x0 : AV) (h : Heap) :
    runK C0 call md 58 n (.region 0 (O58 0) false) k (st 25 [(0, x0)]) h =
    k .normal (st 25 [(0, x0)]) h
  := by kernel_rfl
theorem r58_1 {β : Type} (call : CallF) (md : Bool) (n : Nat) (k : Ex → List AV → Heap → Option β) (x0 : AV) (h : Heap) :
    runK C0 call md 58 n (.region 1 (O58 1) true) k (st 25 [(0, x0)]) h =
    bnd (aIndexAddr tab 22 x0 (.int .i64 0)) fun v1 =>
    bnd (aLoad tab 5 v1 h) fun v2 =>
    bnd (aConv tab 5 3 v2 h) fun v3 =>
    bnd (aBinC tab .shl 3 v3 (.int .u64 24) true) fun v4 =>
    bnd (aIndexAddr tab 22 x0 (.int .i64 1)) fun v5 =>
    bnd (aLoad tab 5 v5 h) fun v6 =>
    bnd (aConv tab 5 3 v6 h) fun v7 =>
    bnd (aBinC tab .shl 3 v7 (.int .u64 16) true) fun v8 =>
    bnd (aBinC tab .add 3 v4 v8 false) fun v9 =>
    bnd (aIndexAddr tab 22 x0 (.int .i64 2)) fun v10 =>
    bnd (aLoad tab 5 v10 h) fun v11 =>
    bnd (aConv tab 5 3 v11 h) fun v12 =>
    bnd (aBinC tab .shl 3 v12 (.int .u64 8) true) fun v13 =>
    bnd (aBinC tab .add 3 v9 v13 false) fun v14 =>
    bnd (aIndexAddr tab 22 x0 (.int .i64 3)) fun v15 =>
    bnd (aLoad tab 5 v15 h) fun v16 =>
    bnd (aConv tab 5 3 v16 h) fun v17 =>
    bnd (aBinC tab .add 3 v14 v17 false) fun v18 =>
    k .normal (st 25 [(2, v18)]) h
  := by kernel_rfl
end Go.Ax

/- What the regions of some functions hand on. Printed by a program of mine (gen.py). -/
set_option linter.unusedVariables false
namespace Go.Ax
open Go Go.Proofs
/-! ### interregnum/interregnumref01.Four -/
noncomputable def O62 (i : Nat) : Array Oper := opsOf i (bodyOf Try.f62)
theorem s62 : bodyOf Try.f62 = (.seq (.region 0 (O62 0) false) (.seq (.region 1 (O62 1) false) .ret)) := by kernel_rfl
theorem e62 : E0 62 = some ⟨15, [2], bodyOf Try.f62⟩ := by kernel_rfl
theorem r62_0 {β : Type} (call : CallF) (md : Bool) (n : Nat) (k : Ex → List AV → Heap → Option β) (x0 : AV) (h : Heap) :
    runK C0 call md 62 n (.region 0 (O62 0) false) k (st 15 [(0, x0)]) h =
    k .normal (st 15 [(0, x0)]) h
  := by kernel_rfl
theorem r62_1 {β : Type} (call : CallF) (md : Bool) (n : Nat) (k : Ex → List AV → Heap → Option β) (x0 : AV) (h : Heap) :
    runK C0 call md 62 n (.region 1 (O62 1) false) k (st 15 [(0, x0)]) h =
    bnd (aBinC tab .shr 3 x0 (.int .u64 24) true) fun v1 =>
    bnd (aConv tab 3 5 v1 h) fun v2 =>
    bnd (aBinC tab .shr 3 x0 (.int .u64 16) true) fun v3 =>
    bnd (aConv tab 3 5 v3 h) fun v4 =>
    bnd (aBinC tab .shr 3 x0 (.int .u64 8) true) fun v5 =>
    bnd (aConv tab 3 5 v5 h) fun v6 =>
    bnd (aConv tab 3 5 x0 h) fun v7 =>
    bnd (aLit tab 22 4 [(0, v2), (1, v4), (2, v6), (3, v7)]) fun v8 =>
    k .normal (st 15 [(2, v8)]) h
  := by kernel_rfl
end Go.Ax

/- What the regions of some functions hand on. Printed by a program of mine (gen.py). -/
set_option linter.unusedVariables false
namespace Go.Ax
open Go Go.Proofs
/-! ### interregnum/interregnumref01.Crc -/
noncomputable def O63 (i : Nat) : Array Oper := opsOf i (bodyOf Try.f63)
noncomputable def B63_1 : Code := (.seq (.seq (.region 7 (O63 7) false) (.cond (Go.Operand.tmp 20) .skip (.exit 2))) (.seq (.block 3 (.seq (.region 9 (O63 9) false) (.cond (Go.Operand.tmp 25) (.region 10 (O63 10) false) (.region 11 (O63 11) false)))) (.region 8 (O63 8) false)))
noncomputable def B63_2 : Code := (.seq (.seq (.region 3 (O63 3) false) (.cond (Go.Operand.tmp 9) .skip (.exit 0))) (.seq (.block 1 (.seq (.region 5 (O63 5) false) (.seq (.region 6 (O63 6) false) (.block 2 (.loop B63_1))))) (.region 4 (O63 4) false)))
theorem s63 : bodyOf Try.f63 = (.seq (.region 0 (O63 0) false) (.seq (.region 1 (O63 1) false) (.seq (.seq (.region 2 (O63 2) false) (.block 0 (.loop B63_2))) (.seq (.region 12 (O63 12) false) .ret)))) := by kernel_rfl
theorem e63 : E0 63 = some ⟨33, [2], bodyOf Try.f63⟩ := by kernel_rfl
theorem r63_0 {β : Type} (call : CallF) (md : Bool) (n : Nat) (k : Ex → List AV → Heap → Option β) (x0 : AV) (h : Heap) :
    runK C0 call md 63 n (.region 0 (O63 0) false) k (st 33 [(0, x0)]) h =
    k .normal (st 33 [(0, x0)]) h
  := by kernel_rfl
theorem r63_1 {β : Type} (call : CallF) (md : Bool) (n : Nat) (k : Ex → List AV → Heap → Option β) (x0 : AV) (h : Heap) :
    runK C0 call md 63 n (.region 1 (O63 1) false) k (st 33 [(0, x0)]) h =
    k .normal (st 33 [(0, x0), (3, (.int .u32 4294967295))]) h
  := by kernel_rfl
theorem r63_2 {β : Type} (call : CallF) (md : Bool) (n : Nat) (k : Ex → List AV → Heap → Option β) (x0 x3 : AV) (h : Heap) :
    runK C0 call md 63 n (.region 2 (O63 2) false) k (st 33 [(0, x0), (3, x3)]) h =
    k .normal (st 33 [(0, x0), (3, x3), (4, (.int .i64 0))]) h
  := by kernel_rfl
theorem r63_3 {β : Type} (call : CallF) (md : Bool) (n : Nat) (k : Ex → List AV → Heap → Option β) (x0 x3 x4 : AV) (h : Heap) :
    runK C0 call md 63 n (.region 3 (O63 3) false) k (st 33 [(0, x0), (3, x3), (4, x4)]) h =
    bnd (aLen tab 22 x0) fun v1 =>
    bnd (aBinC tab .lss 3 x4 v1 false) fun v2 =>
    k .normal (st 33 [(0, x0), (3, x3), (4, x4), (9, v2)]) h
  := by kernel_rfl
theorem r63_4 {β : Type} (call : CallF) (md : Bool) (n : Nat) (k : Ex → List AV → Heap → Option β) (x0 x3 x4 x5 x20 : AV) (h : Heap) :
    runK C0 call md 63 n (.region 4 (O63 4) false) k (st 33 [(0, x0), (3, x3), (4, x4), (5, x5), (20, x20)]) h =
    bnd (aBinC tab .add 3 x4 (.int .i64 1) true) fun v1 =>
    k .normal (st 33 [(0, x0), (3, x3), (4, v1)]) h
  := by kernel_rfl
theorem r63_5 {β : Type} (call : CallF) (md : Bool) (n : Nat) (k : Ex → List AV → Heap → Option β) (x0 x3 x4 x9 : AV) (h : Heap) :
    runK C0 call md 63 n (.region 5 (O63 5) false) k (st 33 [(0, x0), (3, x3), (4, x4), (9, x9)]) h =
    bnd (aIndexAddr tab 22 x0 x4) fun v1 =>
    bnd (aLoad tab 5 v1 h) fun v2 =>
    bnd (aConv tab 5 105 v2 h) fun v3 =>
    bnd (aBinC tab .xor 105 x3 v3 false) fun v4 =>
    k .normal (st 33 [(0, x0), (3, v4), (4, x4)]) h
  := by kernel_rfl
theorem r63_6 {β : Type} (call : CallF) (md : Bool) (n : Nat) (k : Ex → List AV → Heap → Option β) (x0 x3 x4 : AV) (h : Heap) :
    runK C0 call md 63 n (.region 6 (O63 6) false) k (st 33 [(0, x0), (3, x3), (4, x4)]) h =
    k .normal (st 33 [(0, x0), (3, x3), (4, x4), (5, (.int .i64 0))]) h
  := by kernel_rfl
theorem r63_7 {β : Type} (call : CallF) (md : Bool) (n : Nat) (k : Ex → List AV → Heap → Option β) (x0 x3 x4 x5 : AV) (h : Heap) :
    runK C0 call md 63 n (.region 7 (O63 7) false) k (st 33 [(0, x0), (3, x3), (4, x4), (5, x5)]) h =
    bnd (aBinC tab .lss 3 x5 (.int .i64 8) true) fun v1 =>
    k .normal (st 33 [(0, x0), (3, x3), (4, x4), (5, x5), (20, v1)]) h
  := by kernel_rfl
theorem r63_8 {β : Type} (call : CallF) (md : Bool) (n : Nat) (k : Ex → List AV → Heap → Option β) (x0 x3 x4 x5 : AV) (h : Heap) :
    runK C0 call md 63 n (.region 8 (O63 8) false) k (st 33 [(0, x0), (3, x3), (4, x4), (5, x5)]) h =
    bnd (aBinC tab .add 3 x5 (.int .i64 1) true) fun v1 =>
    k .normal (st 33 [(0, x0), (3, x3), (4, x4), (5, v1)]) h
  := by kernel_rfl
theorem r63_9 {β : Type} (call : CallF) (md : Bool) (n : Nat) (k : Ex → List AV → Heap → Option β) (x0 x3 x4 x5 x20 : AV) (h : Heap) :
    runK C0 call md 63 n (.region 9 (O63 9) false) k (st 33 [(0, x0), (3, x3), (4, x4), (5, x5), (20, x20)]) h =
    bnd (aBinC tab .rem 105 x3 (.int .u32 2) true) fun v1 =>
    bnd (aBinC tab .eql 105 v1 (.int .u32 1) true) fun v2 =>
    k .normal (st 33 [(0, x0), (3, x3), (4, x4), (5, x5), (25, v2)]) h
  := by kernel_rfl
theorem r63_10 {β : Type} (call : CallF) (md : Bool) (n : Nat) (k : Ex → List AV → Heap → Option β) (x0 x3 x4 x5 x25 : AV) (h : Heap) :
    runK C0 call md 63 n (.region 10 (O63 10) false) k (st 33 [(0, x0), (3, x3), (4, x4), (5, x5), (25, x25)]) h =
    bnd (aBinC tab .quo 105 x3 (.int .u32 2) true) fun v1 =>
    bnd (aBinC tab .xor 105 v1 (.int .u32 2197175160) true) fun v2 =>
    k .normal (st 33 [(0, x0), (3, v2), (4, x4), (5, x5)]) h
  := by kernel_rfl
theorem r63_11 {β : Type} (call : CallF) (md : Bool) (n : Nat) (k : Ex → List AV → Heap → Option β) (x0 x3 x4 x5 x25 : AV) (h : Heap) :
    runK C0 call md 63 n (.region 11 (O63 11) false) k (st 33 [(0, x0), (3, x3), (4, x4), (5, x5), (25, x25)]) h =
    bnd (aBinC tab .quo 105 x3 (.int .u32 2) true) fun v1 =>
    k .normal (st 33 [(0, x0), (3, v1), (4, x4), (5, x5)]) h
  := by kernel_rfl
theorem r63_12 {β : Type} (call : CallF) (md : Bool) (n : Nat) (k : Ex → List AV → Heap → Option β) (x0 x3 x4 x9 : AV) (h : Heap) :
    runK C0 call md 63 n (.region 12 (O63 12) false) k (st 33 [(0, x0), (3, x3), (4, x4), (9, x9)]) h =
    bnd (aUn .xor x3) fun v1 =>
    k .normal (st 33 [(2, v1)]) h
  := by kernel_rfl
end Go.Ax

/- The reference's Four, Num, Crc: what they compute. -/
namespace Go.Ax
open Go Go.Proofs

theorem shr_i64 (v : Int) (n : Nat) (hn : n ≤ 64) : aBinC tab .shr 3 (.int .i64 v) (.int .u64 n) true = some (.int .i64 (v / 2 ^ n)) := by
  have e : Go.binOp .shr 3 (.int .i64 v) (.int .u64 (n : Int)) = pure (.int .i64 (v / 2 ^ n)) := by
    have := Go.shift_shr .i64 .u64 v (n : Int) (by omega) (by have : IntKind.i64.bits = 64 := rfl; omega)
    rw [Int.toNat_natCast] at this
    exact this
  simp only [aBinC, aBin, e, ofPure, pure]
theorem shl_i64 (v : Int) (n : Nat) (hn : n ≤ 64) : aBinC tab .shl 3 (.int .i64 v) (.int .u64 n) true = some (.int .i64 (IntKind.i64.wrap (v * 2 ^ n))) := by
  have e : Go.binOp .shl 3 (.int .i64 v) (.int .u64 (n : Int)) = pure (.int .i64 (IntKind.i64.wrap (v * 2 ^ n))) := by
    have := Go.shift_shl .i64 .u64 v (n : Int) (by omega) (by have : IntKind.i64.bits = 64 := rfl; omega)
    rw [Int.toNat_natCast] at this
    exact this
  simp only [aBinC, aBin, e, ofPure, pure]
theorem conv_i64_8 (v : Int) (h : Heap) : aConv tab 3 5 (.int .i64 v) h = some (.int .u8 (v % 256)) := by
  simp [aConv, wrap_u8]

theorem toNat_ofInt32 (v : Int) : ((BitVec.ofInt 32 v).toNat : Int) = v % 4294967296 := by
  rw [BitVec.toNat_ofInt]
  omega
theorem byte_shr (v : Int) (s : Nat) : (U8 (byte (BitVec.ofInt 32 v >>> s))) = .int .u8 (((v % 4294967296) / 2 ^ s) % 256) := by
  have e := toNat_ofInt32 v
  simp only [U8, byte, UInt8.toNat_ofBitVec, BitVec.toNat_setWidth, BitVec.toNat_ushiftRight, Nat.shiftRight_eq_div_pow]
  congr 1
  rw [← e]
  simp

theorem four_ok (v : Int) (md : Bool) (h : Heap) (k : Nat) : exFn C0 E0 (k + 1) md 62 [.int .i64 v] h = some (.vsl 5 ((be4 (BitVec.ofInt 32 v)).map U8) .exact, h) := by
  refine exFn_of e62 ?_
  rw [fnK, show ([AV.int .i64 v] ++ List.replicate (15 - [AV.int .i64 v].length) AV.undef) = st 15 [(0, .int .i64 v)] from rfl, s62]
  have c1 := shr_i64 v 24 (by decide)
  have c2 := shr_i64 v 16 (by decide)
  have c3 := shr_i64 v 8 (by decide)
  simp only [Int.cast_ofNat_Int] at c1 c2 c3
  have b1 : AV.int .u8 ((v / 2 ^ 24) % 256) = U8 (byte (BitVec.ofInt 32 v >>> 24)) := by rw [byte_shr]; congr 1; omega
  have b2 : AV.int .u8 ((v / 2 ^ 16) % 256) = U8 (byte (BitVec.ofInt 32 v >>> 16)) := by rw [byte_shr]; congr 1; omega
  have b3 : AV.int .u8 ((v / 2 ^ 8) % 256) = U8 (byte (BitVec.ofInt 32 v >>> 8)) := by rw [byte_shr]; congr 1; omega
  have b4 : AV.int .u8 (v % 256) = U8 (byte (BitVec.ofInt 32 v)) := by
    have := byte_shr v 0
    simp only [BitVec.ushiftRight_zero] at this
    rw [this]; congr 1; omega
  simp -implicitDefEqProofs only [↓runK_seq, runK_seq, ↓runK_cond, runK_cond, ↓runK_block, runK_block, ↓runK_loop, runK_loop, ↓runK_skip, runK_skip, ↓runK_ret, runK_ret, ↓runK_exit, runK_exit, ↓seqE_n, seqE_n, ↓seqE_e, seqE_e, ↓seqE_r, seqE_r, ↓blkE_n, blkE_n, ↓blkE_e, blkE_e, ↓blkE_r, blkE_r, ↓retK_n, retK_n, ↓retK_r, retK_r, ↓aCall_fn, aCall_fn, ↓bnd_s, bnd_s, ↓bnd2_s, bnd2_s, ↓onB_t, onB_t, ↓onB_f, onB_f, ↓onG_tt, onG_tt, ↓onG_tf, onG_tf, ↓onG_ft, onG_ft, ↓onG_ff, onG_ff, ↓onG_s, onG_s, ↓onT_t, onT_t, ↓aPick_t, aPick_t, ↓aPick_f, aPick_f, decide_true, decide_false, st_tmp, results1, results2, List.lookup_cons, List.lookup_nil, Nat.reduceBEq, Bool.false_eq_true, ↓reduceIte, BEq.rfl, Nat.reduceLT, Option.getD_some, Option.getD_none, ↓r62_0, r62_0, ↓r62_1, r62_1, c1, c2, c3, conv_i64_8, b1, b2, b3, b4, lit22_4]
  rfl

theorem conv_8_i64 (b : UInt8) (h : Heap) : aConv tab 5 3 (U8 b) h = some (.int .i64 b.toNat) := by
  have := b.toNat_lt
  simp [aConv, U8]
  exact wrap_i64 (by omega) (by omega)

def num4 (a b c d : UInt8) : Nat := a.toNat * 16777216 + b.toNat * 65536 + c.toNat * 256 + d.toNat
theorem get4_num (a b c d : UInt8) (r : List UInt8) : (get4 (a :: b :: c :: d :: r)).toNat = num4 a b c d := by
  have ha := a.toNat_lt
  have hb := b.toNat_lt
  have hc := c.toNat_lt
  have hd := d.toNat_lt
  have hlt : num4 a b c d < 4294967296 := by unfold num4; omega
  have e : be4 (BitVec.ofNat 32 (num4 a b c d)) = [a, b, c, d] := by
    simp only [be4, byte, List.cons.injEq, and_true]
    refine ⟨?_, ?_, ?_, ?_⟩ <;> apply UInt8.toNat_inj.1 <;>
      simp only [UInt8.toNat_ofBitVec, BitVec.toNat_setWidth, BitVec.toNat_ushiftRight, BitVec.toNat_ofNat, Nat.shiftRight_eq_div_pow] <;> unfold num4 at * <;> omega
  have := get4_be4 (BitVec.ofNat 32 (num4 a b c d)) r
  rw [e] at this
  rw [show a :: b :: c :: d :: r = [a, b, c, d] ++ r from rfl, this, BitVec.toNat_ofNat]
  omega

theorem num_ok {x : AV} {l : List UInt8} (hx : Bs x l) (hl : 4 ≤ l.length) (md : Bool) (h : Heap) (k : Nat) : exFn C0 E0 (k + 1) md 58 [x] h = some (.int .i64 (get4 l).toNat, h) := by
  obtain ⟨a, b, c, d, r, rfl⟩ : ∃ a b c d r, l = a :: b :: c :: d :: r := by
    match l, hl with
    | a :: b :: c :: d :: r, _ => exact ⟨a, b, c, d, r, rfl⟩
  refine exFn_of e58 ?_
  rw [fnK, show ([x] ++ List.replicate (25 - [x].length) AV.undef) = st 25 [(0, x)] from rfl, s58, get4_num]
  have ha := a.toNat_lt
  have hb := b.toNat_lt
  have hc := c.toNat_lt
  have hd := d.toNat_lt
  have i0 := hx.idx (i := 0) rfl
  have i1 := hx.idx (i := 1) rfl
  have i2 := hx.idx (i := 2) rfl
  have i3 := hx.idx (i := 3) rfl
  simp only [Int.cast_ofNat_Int] at i0 i1 i2 i3
  have c1 := shl_i64 (a.toNat : Int) 24 (by decide)
  have c2 := shl_i64 (b.toNat : Int) 16 (by decide)
  have c3 := shl_i64 (c.toNat : Int) 8 (by decide)
  simp only [Int.cast_ofNat_Int] at c1 c2 c3
  rw [wrap_i64 (by omega) (by omega)] at c1 c2 c3
  have w1 : IntKind.i64.wrap ((a.toNat : Int) * 2 ^ 24 + (b.toNat : Int) * 2 ^ 16) = (a.toNat : Int) * 2 ^ 24 + (b.toNat : Int) * 2 ^ 16 := by rw [wrap_i64] <;> omega
  have w2 : IntKind.i64.wrap ((a.toNat : Int) * 2 ^ 24 + (b.toNat : Int) * 2 ^ 16 + (c.toNat : Int) * 2 ^ 8) = (a.toNat : Int) * 2 ^ 24 + (b.toNat : Int) * 2 ^ 16 + (c.toNat : Int) * 2 ^ 8 := by rw [wrap_i64] <;> omega
  have w3 : IntKind.i64.wrap ((a.toNat : Int) * 2 ^ 24 + (b.toNat : Int) * 2 ^ 16 + (c.toNat : Int) * 2 ^ 8 + (d.toNat : Int)) = ((num4 a b c d : Nat) : Int) := by unfold num4; rw [wrap_i64] <;> omega
  simp -implicitDefEqProofs only [↓runK_seq, runK_seq, ↓runK_cond, runK_cond, ↓runK_block, runK_block, ↓runK_loop, runK_loop, ↓runK_skip, runK_skip, ↓runK_ret, runK_ret, ↓runK_exit, runK_exit, ↓seqE_n, seqE_n, ↓seqE_e, seqE_e, ↓seqE_r, seqE_r, ↓blkE_n, blkE_n, ↓blkE_e, blkE_e, ↓blkE_r, blkE_r, ↓retK_n, retK_n, ↓retK_r, retK_r, ↓aCall_fn, aCall_fn, ↓bnd_s, bnd_s, ↓bnd2_s, bnd2_s, ↓onB_t, onB_t, ↓onB_f, onB_f, ↓onG_tt, onG_tt, ↓onG_tf, onG_tf, ↓onG_ft, onG_ft, ↓onG_ff, onG_ff, ↓onG_s, onG_s, ↓onT_t, onT_t, ↓aPick_t, aPick_t, ↓aPick_f, aPick_f, decide_true, decide_false, st_tmp, results1, results2, List.lookup_cons, List.lookup_nil, Nat.reduceBEq, Bool.false_eq_true, ↓reduceIte, BEq.rfl, Nat.reduceLT, Option.getD_some, Option.getD_none, ↓r58_0, r58_0, ↓r58_1, r58_1, i0, i1, i2, i3, load5, conv_8_i64, c1, c2, c3, bin_add, w1, w2, w3]

/-! ### Crc -/
theorem rem_u32 (v : BitVec 32) : aBinC tab .rem 105 (U32 v) (.int .u32 2) true = some (.int .u32 ((v.toNat % 2 : Nat) : Int)) := by
  simp [aBinC, aBin, U32, Go.binOp, Op.intDiv, ofPure, pure, wrap_u32]
  rw [Int.tmod_eq_emod_of_nonneg (by omega)]
  try omega
theorem quo_u32 (v : BitVec 32) : aBinC tab .quo 105 (U32 v) (.int .u32 2) true = some (U32 (v >>> 1)) := by
  have hlt := v.isLt
  simp [aBinC, aBin, U32, Go.binOp, Op.intDiv, ofPure, pure, wrap_u32, Nat.shiftRight_eq_div_pow]
  omega
theorem crcBit_odd {v : BitVec 32} (h : v.toNat % 2 = 1) : crcBit v = (v >>> 1) ^^^ 2197175160#32 := by
  have e : v &&& 1#32 = 1#32 := by
    apply BitVec.eq_of_toNat_eq
    rw [BitVec.toNat_and]
    simp only [BitVec.toNat_ofNat, Nat.reducePow, Nat.reduceMod, Nat.and_one_is_mod]
    exact h
  unfold crcBit
  rw [e]
  rfl
theorem crcBit_even {v : BitVec 32} (h : v.toNat % 2 = 0) : crcBit v = v >>> 1 := by
  have e : v &&& 1#32 = 0#32 := by
    apply BitVec.eq_of_toNat_eq
    rw [BitVec.toNat_and]
    simp only [BitVec.toNat_ofNat, Nat.reducePow, Nat.reduceMod, Nat.and_one_is_mod]
    exact h
  unfold crcBit
  rw [e]
  simp

theorem crc_inner (call : CallF) (md : Bool) (N : Nat) (x i : AV) (h : Heap) (K : Ex → List AV → Heap → Option (AV × Heap)) :
    ∀ (m j n : Nat) (v : BitVec 32), j + m = 8 → m < n → ∃ y,
    loopK (fun next => runK C0 call md 63 N B63_1 (seqE next K)) n (st 33 [(0, x), (3, U32 v), (4, i), (5, .int .i64 j)]) h = K (.exit 2) (st 33 [(0, x), (3, U32 (crcBits m v)), (4, i), (5, y), (20, .bool false)]) h := by
  intro m
  induction m with
  | zero =>
    intro j n v hj hn
    obtain ⟨n, rfl⟩ : ∃ j, n = j + 1 := ⟨n - 1, by omega⟩
    obtain rfl : j = 8 := by omega
    refine ⟨.int .i64 ((8 : Nat) : Int), ?_⟩
    rw [loopK_succ]
    generalize loopK (_ : (List AV → Heap → Option (AV × Heap)) → List AV → Heap → Option (AV × Heap)) n = Lp
    have e : decide (((8 : Nat) : Int) < 8) = false := by decide
    simp -implicitDefEqProofs only [B63_1, ↓runK_seq, runK_seq, ↓runK_cond, runK_cond, ↓runK_block, runK_block, ↓runK_loop, runK_loop, ↓runK_skip, runK_skip, ↓runK_ret, runK_ret, ↓runK_exit, runK_exit, ↓seqE_n, seqE_n, ↓seqE_e, seqE_e, ↓seqE_r, seqE_r, ↓blkE_n, blkE_n, ↓blkE_e, blkE_e, ↓blkE_r, blkE_r, ↓retK_n, retK_n, ↓retK_r, retK_r, ↓aCall_fn, aCall_fn, ↓bnd_s, bnd_s, ↓bnd2_s, bnd2_s, ↓onB_t, onB_t, ↓onB_f, onB_f, ↓onG_tt, onG_tt, ↓onG_tf, onG_tf, ↓onG_ft, onG_ft, ↓onG_ff, onG_ff, ↓onG_s, onG_s, ↓onT_t, onT_t, ↓aPick_t, aPick_t, ↓aPick_f, aPick_f, decide_true, decide_false, st_tmp, results1, results2, List.lookup_cons, List.lookup_nil, Nat.reduceBEq, Bool.false_eq_true, ↓reduceIte, BEq.rfl, Nat.reduceLT, Option.getD_some, Option.getD_none, ↓r63_0, r63_0, ↓r63_1, r63_1, ↓r63_2, r63_2, ↓r63_3, r63_3, ↓r63_4, r63_4, ↓r63_5, r63_5, ↓r63_6, r63_6, ↓r63_7, r63_7, ↓r63_8, r63_8, ↓r63_9, r63_9, ↓r63_10, r63_10, ↓r63_11, r63_11, ↓r63_12, r63_12, bin_lss, e, crcBits]
  | succ m ih =>
    intro j n v hj hn
    obtain ⟨n, rfl⟩ : ∃ j, n = j + 1 := ⟨n - 1, by omega⟩
    have e : decide (((j : Nat) : Int) < 8) = true := decide_eq_true (by omega)
    have wr : IntKind.i64.wrap ((j : Int) + 1) = ((j + 1 : Nat) : Int) := by rw [wrap_i64] <;> omega
    have c1 : AV.int .u32 2197175160 = U32 2197175160#32 := u32_lit 2197175160 (by decide)
    obtain ⟨y, hy⟩ := ih (j + 1) n (crcBit v) (by omega) (by omega)
    refine ⟨y, ?_⟩
    rw [loopK_succ]
    rw [show crcBits (m + 1) v = crcBits m (crcBit v) from rfl, ← hy]
    generalize loopK (_ : (List AV → Heap → Option (AV × Heap)) → List AV → Heap → Option (AV × Heap)) n = Lp
    rcases Nat.mod_two_eq_zero_or_one v.toNat with h0 | h1
    · have e2 : decide (((v.toNat % 2 : Nat) : Int) = 1) = false := decide_eq_false (by omega)
      simp -implicitDefEqProofs only [B63_1, ↓runK_seq, runK_seq, ↓runK_cond, runK_cond, ↓runK_block, runK_block, ↓runK_loop, runK_loop, ↓runK_skip, runK_skip, ↓runK_ret, runK_ret, ↓runK_exit, runK_exit, ↓seqE_n, seqE_n, ↓seqE_e, seqE_e, ↓seqE_r, seqE_r, ↓blkE_n, blkE_n, ↓blkE_e, blkE_e, ↓blkE_r, blkE_r, ↓retK_n, retK_n, ↓retK_r, retK_r, ↓aCall_fn, aCall_fn, ↓bnd_s, bnd_s, ↓bnd2_s, bnd2_s, ↓onB_t, onB_t, ↓onB_f, onB_f, ↓onG_tt, onG_tt, ↓onG_tf, onG_tf, ↓onG_ft, onG_ft, ↓onG_ff, onG_ff, ↓onG_s, onG_s, ↓onT_t, onT_t, ↓aPick_t, aPick_t, ↓aPick_f, aPick_f, decide_true, decide_false, st_tmp, results1, results2, List.lookup_cons, List.lookup_nil, Nat.reduceBEq, Bool.false_eq_true, ↓reduceIte, BEq.rfl, Nat.reduceLT, Option.getD_some, Option.getD_none, ↓r63_0, r63_0, ↓r63_1, r63_1, ↓r63_2, r63_2, ↓r63_3, r63_3, ↓r63_4, r63_4, ↓r63_5, r63_5, ↓r63_6, r63_6, ↓r63_7, r63_7, ↓r63_8, r63_8, ↓r63_9, r63_9, ↓r63_10, r63_10, ↓r63_11, r63_11, ↓r63_12, r63_12, bin_lss, e, rem_u32, bin_eql, e2, quo_u32, crcBit_even h0, bin_add, wr]
    · have e2 : decide (((v.toNat % 2 : Nat) : Int) = 1) = true := decide_eq_true (by omega)
      simp -implicitDefEqProofs only [B63_1, ↓runK_seq, runK_seq, ↓runK_cond, runK_cond, ↓runK_block, runK_block, ↓runK_loop, runK_loop, ↓runK_skip, runK_skip, ↓runK_ret, runK_ret, ↓runK_exit, runK_exit, ↓seqE_n, seqE_n, ↓seqE_e, seqE_e, ↓seqE_r, seqE_r, ↓blkE_n, blkE_n, ↓blkE_e, blkE_e, ↓blkE_r, blkE_r, ↓retK_n, retK_n, ↓retK_r, retK_r, ↓aCall_fn, aCall_fn, ↓bnd_s, bnd_s, ↓bnd2_s, bnd2_s, ↓onB_t, onB_t, ↓onB_f, onB_f, ↓onG_tt, onG_tt, ↓onG_tf, onG_tf, ↓onG_ft, onG_ft, ↓onG_ff, onG_ff, ↓onG_s, onG_s, ↓onT_t, onT_t, ↓aPick_t, aPick_t, ↓aPick_f, aPick_f, decide_true, decide_false, st_tmp, results1, results2, List.lookup_cons, List.lookup_nil, Nat.reduceBEq, Bool.false_eq_true, ↓reduceIte, BEq.rfl, Nat.reduceLT, Option.getD_some, Option.getD_none, ↓r63_0, r63_0, ↓r63_1, r63_1, ↓r63_2, r63_2, ↓r63_3, r63_3, ↓r63_4, r63_4, ↓r63_5, r63_5, ↓r63_6, r63_6, ↓r63_7, r63_7, ↓r63_8, r63_8, ↓r63_9, r63_9, ↓r63_10, r63_10, ↓r63_11, r63_11, ↓r63_12, r63_12, bin_lss, e, rem_u32, bin_eql, e2, quo_u32, c1, u32_xor, crcBit_odd h1, bin_add, wr]

theorem crc_outer {x : AV} {l : List UInt8} (hx : Bs x l) (hl : l.length < 2 ^ 62) (call : CallF) (md : Bool) (N : Nat) (hN : 8 < N) (h : Heap) (K : Ex → List AV → Heap → Option (AV × Heap)) :
    ∀ (m i n : Nat) (v : BitVec 32), i + m = l.length → m < n →
    loopK (fun next => runK C0 call md 63 N B63_2 (seqE next K)) n (st 33 [(0, x), (3, U32 v), (4, .int .i64 i)]) h =
      K (.exit 0) (st 33 [(0, x), (3, U32 ((l.drop i).foldl crcByte v)), (4, .int .i64 l.length), (9, .bool false)]) h := by
  intro m
  induction m with
  | zero =>
    intro i n v hi hn
    obtain ⟨n, rfl⟩ : ∃ j, n = j + 1 := ⟨n - 1, by omega⟩
    obtain rfl : i = l.length := by omega
    rw [loopK_succ, List.drop_length]
    generalize loopK (_ : (List AV → Heap → Option (AV × Heap)) → List AV → Heap → Option (AV × Heap)) n = Lp
    have e : decide (((l.length : Nat) : Int) < (l.length : Nat)) = false := decide_eq_false (by omega)
    simp -implicitDefEqProofs only [B63_2, ↓runK_seq, runK_seq, ↓runK_cond, runK_cond, ↓runK_block, runK_block, ↓runK_loop, runK_loop, ↓runK_skip, runK_skip, ↓runK_ret, runK_ret, ↓runK_exit, runK_exit, ↓seqE_n, seqE_n, ↓seqE_e, seqE_e, ↓seqE_r, seqE_r, ↓blkE_n, blkE_n, ↓blkE_e, blkE_e, ↓blkE_r, blkE_r, ↓retK_n, retK_n, ↓retK_r, retK_r, ↓aCall_fn, aCall_fn, ↓bnd_s, bnd_s, ↓bnd2_s, bnd2_s, ↓onB_t, onB_t, ↓onB_f, onB_f, ↓onG_tt, onG_tt, ↓onG_tf, onG_tf, ↓onG_ft, onG_ft, ↓onG_ff, onG_ff, ↓onG_s, onG_s, ↓onT_t, onT_t, ↓aPick_t, aPick_t, ↓aPick_f, aPick_f, decide_true, decide_false, st_tmp, results1, results2, List.lookup_cons, List.lookup_nil, Nat.reduceBEq, Bool.false_eq_true, ↓reduceIte, BEq.rfl, Nat.reduceLT, Option.getD_some, Option.getD_none, ↓r63_0, r63_0, ↓r63_1, r63_1, ↓r63_2, r63_2, ↓r63_3, r63_3, ↓r63_4, r63_4, ↓r63_5, r63_5, ↓r63_6, r63_6, ↓r63_7, r63_7, ↓r63_8, r63_8, ↓r63_9, r63_9, ↓r63_10, r63_10, ↓r63_11, r63_11, ↓r63_12, r63_12, hx.len, bin_lss, e, List.foldl_nil]
  | succ m ih =>
    intro i n v hi hn
    obtain ⟨n, rfl⟩ : ∃ j, n = j + 1 := ⟨n - 1, by omega⟩
    obtain ⟨b, hb⟩ : ∃ b, l[i]? = some b := ⟨l[i]'(by omega), List.getElem?_eq_getElem _⟩
    have e : decide (((i : Nat) : Int) < (l.length : Nat)) = true := decide_eq_true (by omega)
    have wr : IntKind.i64.wrap ((i : Int) + 1) = ((i + 1 : Nat) : Int) := by rw [wrap_i64] <;> omega
    rw [drop_get hb, List.foldl_cons, ← ih (i + 1) n (crcByte v b) (by omega) (by omega), loopK_succ]
    generalize loopK (_ : (List AV → Heap → Option (AV × Heap)) → List AV → Heap → Option (AV × Heap)) n = Lp
    simp -implicitDefEqProofs only [B63_2, ↓runK_seq, runK_seq, ↓runK_cond, runK_cond, ↓runK_block, runK_block, ↓runK_loop, runK_loop, ↓runK_skip, runK_skip, ↓runK_ret, runK_ret, ↓runK_exit, runK_exit, ↓seqE_n, seqE_n, ↓seqE_e, seqE_e, ↓seqE_r, seqE_r, ↓blkE_n, blkE_n, ↓blkE_e, blkE_e, ↓blkE_r, blkE_r, ↓retK_n, retK_n, ↓retK_r, retK_r, ↓aCall_fn, aCall_fn, ↓bnd_s, bnd_s, ↓bnd2_s, bnd2_s, ↓onB_t, onB_t, ↓onB_f, onB_f, ↓onG_tt, onG_tt, ↓onG_tf, onG_tf, ↓onG_ft, onG_ft, ↓onG_ff, onG_ff, ↓onG_s, onG_s, ↓onT_t, onT_t, ↓aPick_t, aPick_t, ↓aPick_f, aPick_f, decide_true, decide_false, st_tmp, results1, results2, List.lookup_cons, List.lookup_nil, Nat.reduceBEq, Bool.false_eq_true, ↓reduceIte, BEq.rfl, Nat.reduceLT, Option.getD_some, Option.getD_none, ↓r63_0, r63_0, ↓r63_1, r63_1, ↓r63_2, r63_2, ↓r63_3, r63_3, ↓r63_4, r63_4, ↓r63_5, r63_5, ↓r63_6, r63_6, ↓r63_7, r63_7, ↓r63_8, r63_8, ↓r63_9, r63_9, ↓r63_10, r63_10, ↓r63_11, r63_11, ↓r63_12, r63_12, hx.len, bin_lss, e, hx.idx hb, load5, conv_8_32, u32_xor]
    obtain ⟨y, hy⟩ := crc_inner call md N x (.int .i64 i) h (blkE 2 (blkE 1 (seqE (runK C0 call md 63 N (.region 4 (O63 4) false) (seqE Lp K)) (seqE Lp K)))) 8 0 N (v ^^^ b.toBitVec.setWidth 32) (by omega) hN
    rw [show ((0 : Nat) : Int) = 0 from rfl] at hy
    rw [hy, show crcBits 8 (v ^^^ b.toBitVec.setWidth 32) = crcByte v b from rfl]
    simp -implicitDefEqProofs only [↓runK_seq, runK_seq, ↓runK_cond, runK_cond, ↓runK_block, runK_block, ↓runK_loop, runK_loop, ↓runK_skip, runK_skip, ↓runK_ret, runK_ret, ↓runK_exit, runK_exit, ↓seqE_n, seqE_n, ↓seqE_e, seqE_e, ↓seqE_r, seqE_r, ↓blkE_n, blkE_n, ↓blkE_e, blkE_e, ↓blkE_r, blkE_r, ↓retK_n, retK_n, ↓retK_r, retK_r, ↓aCall_fn, aCall_fn, ↓bnd_s, bnd_s, ↓bnd2_s, bnd2_s, ↓onB_t, onB_t, ↓onB_f, onB_f, ↓onG_tt, onG_tt, ↓onG_tf, onG_tf, ↓onG_ft, onG_ft, ↓onG_ff, onG_ff, ↓onG_s, onG_s, ↓onT_t, onT_t, ↓aPick_t, aPick_t, ↓aPick_f, aPick_f, decide_true, decide_false, st_tmp, results1, results2, List.lookup_cons, List.lookup_nil, Nat.reduceBEq, Bool.false_eq_true, ↓reduceIte, BEq.rfl, Nat.reduceLT, Option.getD_some, Option.getD_none, ↓r63_0, r63_0, ↓r63_1, r63_1, ↓r63_2, r63_2, ↓r63_3, r63_3, ↓r63_4, r63_4, ↓r63_5, r63_5, ↓r63_6, r63_6, ↓r63_7, r63_7, ↓r63_8, r63_8, ↓r63_9, r63_9, ↓r63_10, r63_10, ↓r63_11, r63_11, ↓r63_12, r63_12, bin_add, wr]

theorem rcrc_ok {x : AV} {l : List UInt8} (hx : Bs x l) (hl : l.length < 2 ^ 62) (md : Bool) (h : Heap) (k : Nat) (hk : l.length + 9 < k) : exFn C0 E0 (k + 1) md 63 [x] h = some (U32 (crc l), h) := by
  refine exFn_of e63 ?_
  have c1 : AV.int .u32 4294967295 = U32 4294967295#32 := u32_lit 4294967295 (by decide)
  rw [fnK, show ([x] ++ List.replicate (33 - [x].length) AV.undef) = st 33 [(0, x)] from rfl, s63]
  simp -implicitDefEqProofs only [↓runK_seq, runK_seq, ↓runK_cond, runK_cond, ↓runK_block, runK_block, ↓runK_loop, runK_loop, ↓runK_skip, runK_skip, ↓runK_ret, runK_ret, ↓runK_exit, runK_exit, ↓seqE_n, seqE_n, ↓seqE_e, seqE_e, ↓seqE_r, seqE_r, ↓blkE_n, blkE_n, ↓blkE_e, blkE_e, ↓blkE_r, blkE_r, ↓retK_n, retK_n, ↓retK_r, retK_r, ↓aCall_fn, aCall_fn, ↓bnd_s, bnd_s, ↓bnd2_s, bnd2_s, ↓onB_t, onB_t, ↓onB_f, onB_f, ↓onG_tt, onG_tt, ↓onG_tf, onG_tf, ↓onG_ft, onG_ft, ↓onG_ff, onG_ff, ↓onG_s, onG_s, ↓onT_t, onT_t, ↓aPick_t, aPick_t, ↓aPick_f, aPick_f, decide_true, decide_false, st_tmp, results1, results2, List.lookup_cons, List.lookup_nil, Nat.reduceBEq, Bool.false_eq_true, ↓reduceIte, BEq.rfl, Nat.reduceLT, Option.getD_some, Option.getD_none, ↓r63_0, r63_0, ↓r63_1, r63_1, ↓r63_2, r63_2, ↓r63_3, r63_3, ↓r63_4, r63_4, ↓r63_5, r63_5, ↓r63_6, r63_6, ↓r63_7, r63_7, ↓r63_8, r63_8, ↓r63_9, r63_9, ↓r63_10, r63_10, ↓r63_11, r63_11, ↓r63_12, r63_12, c1]
  rw [show AV.int .i64 0 = .int .i64 ((0 : Nat) : Int) from rfl, crc_outer hx hl _ md k (by omega) h _ l.length 0 k 4294967295#32 (by omega) (by omega)]
  simp -implicitDefEqProofs only [↓runK_seq, runK_seq, ↓runK_cond, runK_cond, ↓runK_block, runK_block, ↓runK_loop, runK_loop, ↓runK_skip, runK_skip, ↓runK_ret, runK_ret, ↓runK_exit, runK_exit, ↓seqE_n, seqE_n, ↓seqE_e, seqE_e, ↓seqE_r, seqE_r, ↓blkE_n, blkE_n, ↓blkE_e, blkE_e, ↓blkE_r, blkE_r, ↓retK_n, retK_n, ↓retK_r, retK_r, ↓aCall_fn, aCall_fn, ↓bnd_s, bnd_s, ↓bnd2_s, bnd2_s, ↓onB_t, onB_t, ↓onB_f, onB_f, ↓onG_tt, onG_tt, ↓onG_tf, onG_tf, ↓onG_ft, onG_ft, ↓onG_ff, onG_ff, ↓onG_s, onG_s, ↓onT_t, onT_t, ↓aPick_t, aPick_t, ↓aPick_f, aPick_f, decide_true, decide_false, st_tmp, results1, results2, List.lookup_cons, List.lookup_nil, Nat.reduceBEq, Bool.false_eq_true, ↓reduceIte, BEq.rfl, Nat.reduceLT, Option.getD_some, Option.getD_none, ↓r63_0, r63_0, ↓r63_1, r63_1, ↓r63_2, r63_2, ↓r63_3, r63_3, ↓r63_4, r63_4, ↓r63_5, r63_5, ↓r63_6, r63_6, ↓r63_7, r63_7, ↓r63_8, r63_8, ↓r63_9, r63_9, ↓r63_10, r63_10, ↓r63_11, r63_11, ↓r63_12, r63_12, List.drop_zero, u32_not]
  rfl
end Go.Ax

/- Plain laws: what Lay has laid on a disk that is up, Scan finds. -/
namespace Go.Ax
open Go Go.Proofs

/-- A disk that is up, and stays so; nothing is loose. -/
def Calm (l : List (List UInt8)) : Dk := ⟨l, [], -1, false⟩

def parts (a : Nat) (b : List UInt8) (i m : Nat) : List (Nat × List UInt8) := (List.range' i m).map fun j => (a + j, pad (chunk b j))

theorem parts_succ (a : Nat) (b : List UInt8) (i m : Nat) : parts a b i (m + 1) = (a + i, pad (chunk b i)) :: parts a b (i + 1) m := by
  simp [parts, List.range'_succ]
theorem parts_snoc (a : Nat) (b : List UInt8) (i m : Nat) : parts a b i (m + 1) = parts a b i m ++ [(a + (i + m), pad (chunk b (i + m)))] := by
  simp [parts, List.range'_concat]

theorem chunk_length (b : List UInt8) (i : Nat) : (chunk b i).length ≤ 64 := by unfold chunk; rw [List.length_take]; omega
theorem pad_length (b : List UInt8) (h : b.length ≤ 64) : (pad b).length = 64 := by unfold pad; simp; omega

theorem calm_write (l : List (List UInt8)) (ws : List (Nat × List UInt8)) (a : Nat) (b : List UInt8) (ha : a < l.length) (hb : b.length ≤ 64) :
    (⟨l, ws, -1, false⟩ : Dk).write a b = (0, ⟨l, ws ++ [(a, pad b)], -1, false⟩) := by
  unfold Dk.write
  rw [if_neg (by rintro (h | h); exact h ⟨by omega, by simpa using ha⟩; omega)]
  simp [Dk.burn, Dk.add]
theorem calm_flush (l : List (List UInt8)) (ws : List (Nat × List UInt8)) : (⟨l, ws, -1, false⟩ : Dk).flush = (0, Calm (land l ws)) := by
  simp [Dk.flush, Dk.burn, Dk.now, Calm]

theorem calm_loop (l : List (List UInt8)) (a : Nat) (b : List UInt8) : ∀ (m i : Nat) (ws : List (Nat × List UInt8)), a + i + m ≤ l.length →
    layLoop a b m i ⟨l, ws, -1, false⟩ = (0, ⟨l, ws ++ parts a b i m, -1, false⟩) := by
  intro m
  induction m with
  | zero => intro i ws _; simp [layLoop, parts]
  | succ m ih =>
    intro i ws h
    have e : ((a : Int) + i) = ((a + i : Nat) : Int) := by omega
    have w := calm_write l ws (a + i) (chunk b i) (by omega) (chunk_length b i)
    rw [layLoop_go (by rw [e, w]), e, w, ih (i + 1) _ (by omega), parts_succ]
    simp

def nOf (b : List UInt8) : Nat := (sizeOf b.length).toNat
theorem nOf_eq (b : List UInt8) : (nOf b : Int) = sizeOf b.length := by unfold nOf sizeOf; omega
theorem nOf_eq' (b : List UInt8) : nOf b = 1 + (b.length + 63) / 64 := by unfold nOf sizeOf; omega

theorem head16_length (g : BitVec 32) (b : List UInt8) : (head16 g b).length = 16 := by simp [head16, head12, be4]

/-- The sectors behind a Lay. -/
def laid (l : List (List UInt8)) (a : Nat) (gen : Int) (b : List UInt8) : List (List UInt8) := land l (parts a b 1 (nOf b - 1) ++ [(a, pad (head16 (BitVec.ofInt 32 gen) b))])

theorem land_append (l : List (List UInt8)) (u v : List (Nat × List UInt8)) : land l (u ++ v) = land (land l u) v := by simp [land]

theorem lay_calm (l : List (List UInt8)) (a : Nat) (e gen : Int) (b : List UInt8) (hb : b.length ≤ 8192) (h0 : 0 ≤ gen) (h1 : gen ≤ 2147483647) (he : (a : Int) ≤ e) (hn : sizeOf b.length ≤ min e l.length - a) :
    (Calm l).lay a e gen b = ((((a + nOf b : Nat) : Int), 0), Calm (laid l a gen b)) := by
  have hn1 := nOf_eq b
  have hn2 := nOf_eq' b
  have hloop := calm_loop l a b (nOf b - 1) 1 [] (by omega)
  rw [lay_go (d := Calm l) (l := (0, ⟨l, parts a b 1 (nOf b - 1), -1, false⟩)) (by omega) (by show ¬ (_ ∨ min e (l.length : Int) - _ < _); omega) hloop]
  have hlen : (land l (parts a b 1 (nOf b - 1))).length = l.length := land_length _ _
  have w := calm_write (land l (parts a b 1 (nOf b - 1))) [] a (head16 (BitVec.ofInt 32 gen) b) (by omega) (by rw [head16_length]; omega)
  simp only [calm_flush]
  rw [show (Calm (land l (parts a b 1 (nOf b - 1)))) = ⟨land l (parts a b 1 (nOf b - 1)), [], -1, false⟩ from rfl, w]
  simp only [List.nil_append, calm_flush]
  rw [if_neg (fun h => h rfl), if_neg (fun h => h rfl), if_neg (fun h => h rfl), if_neg (fun h => h rfl), laid, land_append, ← hn1]
  simp

theorem land_parts (l : List (List UInt8)) (a : Nat) (b : List UInt8) (i : Nat) : ∀ (m j : Nat), a + i + m ≤ l.length →
    (land l (parts a b i m))[j]? = if a + i ≤ j ∧ j < a + i + m then some (pad (chunk b (j - a))) else l[j]? := by
  intro m
  induction m with
  | zero => intro j _; rw [if_neg (by omega)]; simp [parts, land]
  | succ m ih =>
    intro j h
    rw [parts_snoc, land_snoc]
    simp only
    by_cases hj : a + (i + m) = j
    · subst hj
      rw [List.getElem?_set_self (by rw [land_length]; omega), if_pos (by omega)]
      congr 3; omega
    · rw [List.getElem?_set_ne hj, ih j (by omega)]
      by_cases h2 : a + i ≤ j ∧ j < a + i + m
      · rw [if_pos h2, if_pos (by omega)]
      · rw [if_neg h2, if_neg (by omega)]

theorem laid_length (l : List (List UInt8)) (a : Nat) (gen : Int) (b : List UInt8) : (laid l a gen b).length = l.length := land_length _ _
theorem laid_head (l : List (List UInt8)) (a : Nat) (gen : Int) (b : List UInt8) (h : a < l.length) : (laid l a gen b)[a]? = some (pad (head16 (BitVec.ofInt 32 gen) b)) := by
  rw [laid, land_snoc]; simp [land_length, h]
theorem laid_get (l : List (List UInt8)) (a : Nat) (gen : Int) (b : List UInt8) (h : a + nOf b ≤ l.length) (j : Nat) (hj : j ≠ a) :
    (laid l a gen b)[j]? = if a < j ∧ j < a + nOf b then some (pad (chunk b (j - a))) else l[j]? := by
  have hn2 := nOf_eq' b
  rw [laid, land_snoc, List.getElem?_set_ne (by omega), land_parts l a b 1 _ j (by omega)]
  by_cases h2 : a < j ∧ j < a + nOf b
  · rw [if_pos h2, if_pos (by omega)]
  · rw [if_neg h2, if_neg (by omega)]

theorem pad_take {b : List UInt8} : (pad b).take b.length = b := by simp [pad]
theorem all_zero (n : Nat) : (List.replicate n (0 : UInt8)).all (· == 0) = true := by simp
theorem pad_drop {b : List UInt8} : (pad b).drop b.length = List.replicate (64 - b.length) 0 := by simp [pad]

/-- The sectors of an entry, one behind the other. -/
theorem body_chunks (now : List (List UInt8)) (a : Nat) (b : List UInt8) : ∀ m, 64 * m < b.length + 64 → (∀ j, 1 ≤ j → j ≤ m → now[a + j]? = some (pad (chunk b j))) →
    bodyAt now a m = b.take (64 * m) ++ List.replicate (64 * m - b.length) 0 := by
  intro m
  induction m with
  | zero => intro _ _; simp [bodyAt]
  | succ m ih =>
    intro hm hn
    rw [bodyAt_succ now a m _ (by rw [show a + 1 + m = a + (m + 1) by omega]; exact hn (m + 1) (by omega) (Nat.le_refl _)), ih (by omega) fun j h1 h2 => hn j h1 (by omega)]
    have z : 64 * m - b.length = 0 := by omega
    have tk : b.take (64 * (m + 1)) = b.take (64 * m) ++ chunk b (m + 1) := by
      rw [show 64 * (m + 1) = 64 * m + 64 by omega, List.take_add]; rfl
    have cl : (chunk b (m + 1)).length = min 64 (b.length - 64 * m) := by unfold chunk; simp
    rw [z, tk]
    unfold pad
    rw [cl, show 64 - min 64 (b.length - 64 * m) = 64 * (m + 1) - b.length by omega]
    simp

theorem one_at (now : List (List UInt8)) (a : Nat) (e gen : Int) (b : List UInt8) (hb : b.length ≤ 8192) (hh : now[a]? = some (pad (head16 (BitVec.ofInt 32 gen) b)))
    (he : (a : Int) < e) (hn : sizeOf b.length ≤ min e now.length - a) (hj : ∀ j, 1 ≤ j → j < nOf b → now[a + j]? = some (pad (chunk b j))) : oneOf now a e gen = some b := by
  have hn1 := nOf_eq b
  have hn2 := nOf_eq' b
  have hp : pad (head16 (BitVec.ofInt 32 gen) b) = be4 (BitVec.ofInt 32 gen) ++ (be4 (BitVec.ofNat 32 b.length) ++ (be4 (crc b) ++ (be4 (crc (head12 (BitVec.ofInt 32 gen) b)) ++ List.replicate 48 0))) := by
    unfold pad; rw [head16_length]; simp [head16, head12]
  have p0 : get4 (pad (head16 (BitVec.ofInt 32 gen) b)) = BitVec.ofInt 32 gen := by rw [hp, get4_be4]
  have p4 : get4 ((pad (head16 (BitVec.ofInt 32 gen) b)).drop 4) = BitVec.ofNat 32 b.length := by
    rw [hp, show ∀ (v : BitVec 32) r, (be4 v ++ r).drop 4 = r from fun _ _ => rfl, get4_be4]
  have p12 : get4 ((pad (head16 (BitVec.ofInt 32 gen) b)).drop 12) = crc (head12 (BitVec.ofInt 32 gen) b) := by
    rw [hp, show ∀ (u v w : BitVec 32) r, (be4 u ++ (be4 v ++ (be4 w ++ r))).drop 12 = r from fun _ _ _ _ => rfl, get4_be4]
  have t12 : (pad (head16 (BitVec.ofInt 32 gen) b)).take 12 = head12 (BitVec.ofInt 32 gen) b := by
    rw [hp]; rfl
  have t16 : (pad (head16 (BitVec.ofInt 32 gen) b)).take 16 = head16 (BitVec.ofInt 32 gen) b := by
    rw [hp]; rfl
  have d16 : (pad (head16 (BitVec.ofInt 32 gen) b)).drop 16 = List.replicate 48 0 := by
    rw [hp]; rfl
  have sz : (BitVec.ofNat 32 b.length).toNat = b.length := by simp; omega
  have bd := body_chunks now a b (nOf b - 1) (by omega) fun j h1 h2 => hj j h1 (by omega)
  rw [List.take_of_length_le (l := b) (by omega)] at bd
  have hgo := oneOf_go (now := now) (a := a) (nn := nOf b) (e := e) (gen := gen) hh (by rw [p0, t12, p12]; rintro (h | h | h); omega; exact h rfl; exact h rfl) (by rw [p4, sz]; omega) (by rw [p4, sz]; exact hn1.symm)
  rw [p4, sz] at hgo
  rw [hgo, bd, t16, d16, if_pos]
  · simp
  · refine ⟨by simp, all_zero _, ?_⟩
    simp

theorem one_not (now : List (List UInt8)) (a : Nat) (e gen : Int) (c : List UInt8) (hc : now[a]? = some c) (h : get4 c ≠ BitVec.ofInt 32 gen) : oneOf now a e gen = none := oneOf_head hc (.inr (.inl h))

theorem crc_zero12 : crc (List.replicate 12 0) ≠ 0#32 := by decide +kernel

theorem one_blank (now : List (List UInt8)) (a : Nat) (e gen : Int) (hc : now[a]? = some (List.replicate 64 0)) : oneOf now a e gen = none := by
  refine oneOf_head hc (.inr ?_)
  by_cases h : get4 (List.replicate 64 0) = BitVec.ofInt 32 gen
  · right
    rw [List.take_replicate, List.drop_replicate]
    exact crc_zero12
  · exact .inl h

/-- An entry alone is what is scanned. -/
theorem scan_one (l : List (List UInt8)) (a : Nat) (e gen : Int) (b : List UInt8) (hb : b.length ≤ 8192) (hn : sizeOf b.length ≤ min e l.length - a) (hz : l[a + nOf b]? = some (List.replicate 64 0)) :
    scanOf (laid l a gen b) e gen (l.length + 1) a = ([b], ((a + nOf b : Nat) : Int)) := by
  have hn1 := nOf_eq b
  have hn2 := nOf_eq' b
  have hlt := (List.getElem?_eq_some_iff.1 hz).1
  have h1 : oneOf (laid l a gen b) a e gen = some b := one_at _ a e gen b hb (laid_head l a gen b (by omega)) (by omega) (by rw [laid_length]; exact hn) fun j h1 h2 => by
    rw [laid_get l a gen b (by omega) (a + j) (by omega), if_pos (by omega)]
    congr 3; omega
  have h2 : oneOf (laid l a gen b) ((a + nOf b : Nat) : Int) e gen = none := one_blank _ _ e gen (by rw [laid_get l a gen b (by omega) _ (by omega), if_neg (by omega)]; exact hz)
  obtain ⟨f, hf⟩ : ∃ f, l.length = f + 1 := ⟨l.length - 1, by omega⟩
  rw [hf, scanOf_some h1, ← hn1, show ((a : Int) + (nOf b : Nat)) = ((a + nOf b : Nat) : Int) by omega, scanOf_none h2]

/-- An entry of another generation is none. -/
theorem scan_other (l : List (List UInt8)) (a : Nat) (e gen other : Int) (b : List UInt8) (ha : a < l.length) (hne : BitVec.ofInt 32 gen ≠ BitVec.ofInt 32 other) (f : Nat) :
    scanOf (laid l a gen b) e other (f + 1) a = ([], (a : Int)) := by
  refine scanOf_none (one_not _ a e other _ (laid_head l a gen b ha) ?_)
  have hp : pad (head16 (BitVec.ofInt 32 gen) b) = be4 (BitVec.ofInt 32 gen) ++ (be4 (BitVec.ofNat 32 b.length) ++ (be4 (crc b) ++ (be4 (crc (head12 (BitVec.ofInt 32 gen) b)) ++ List.replicate 48 0))) := by
    unfold pad; rw [head16_length]; simp [head16, head12]
  rw [hp, get4_be4]
  exact hne
end Go.Ax

/- What the regions of some functions hand on. Printed by a program of mine (gen.py). -/
set_option linter.unusedVariables false
namespace Go.Ax
open Go Go.Proofs
/-! ### interregnum/interregnumref01.Sectors -/
noncomputable def O32 (i : Nat) : Array Oper := opsOf i (bodyOf Try.f32)
noncomputable def B32_1 : Code := (.seq (.seq (.region 4 (O32 4) false) (.cond (Go.Operand.tmp 31) .skip (.exit 0))) (.seq (.block 1 (.seq (.region 6 (O32 6) false) (.seq (.seq (.region 7 (O32 7) false) (.cond (Go.Operand.tmp 39) (.region 8 (O32 8) false) .skip)) (.region 9 (O32 9) false)))) (.region 5 (O32 5) false)))
theorem s32 : bodyOf Try.f32 = (.seq (.region 0 (O32 0) false) (.seq (.region 1 (O32 1) false) (.seq (.region 2 (O32 2) false) (.seq (.seq (.region 3 (O32 3) false) (.block 0 (.loop B32_1))) (.seq (.region 10 (O32 10) false) .ret))))) := by kernel_rfl
theorem e32 : E0 32 = some ⟨51, [4], bodyOf Try.f32⟩ := by kernel_rfl
theorem r32_0 {β : Type} (call : CallF) (md : Bool) (n : Nat) (k : Ex → List AV → Heap → Option β) (x0 x1 : AV) (h : Heap) :
    runK C0 call md 32 n (.region 0 (O32 0) false) k (st 51 [(0, x0), (1, x1)]) h =
    k .normal (st 51 [(0, x0), (1, x1)]) h
  := by kernel_rfl
theorem r32_1 {β : Type} (call : CallF) (md : Bool) (n : Nat) (k : Ex → List AV → Heap → Option β) (x0 x1 : AV) (h : Heap) :
    runK C0 call md 32 n (.region 1 (O32 1) false) k (st 51 [(0, x0), (1, x1)]) h =
    bnd2 (aCall call md (.fn (.func 62) []) [x0] h) fun v1 h2 =>
    bnd (aLen tab 22 x1) fun v3 =>
    bnd2 (aCall call md (.fn (.func 62) []) [v3] h2) fun v4 h5 =>
    bnd2 (aApp tab 22 22 md v1 v4 h5) fun v6 h7 =>
    bnd2 (aCall call md (.fn (.func 63) []) [x1] h7) fun v8 h9 =>
    bnd (aConv tab 105 3 v8 h9) fun v10 =>
    bnd2 (aCall call md (.fn (.func 62) []) [v10] h9) fun v11 h12 =>
    bnd2 (aApp tab 22 22 md v6 v11 h12) fun v13 h14 =>
    k .normal (st 51 [(1, x1), (5, v13)]) h14
  := by kernel_rfl
theorem r32_2 {β : Type} (call : CallF) (md : Bool) (n : Nat) (k : Ex → List AV → Heap → Option β) (x1 x5 : AV) (h : Heap) :
    runK C0 call md 32 n (.region 2 (O32 2) false) k (st 51 [(1, x1), (5, x5)]) h =
    bnd2 (aCall call md (.fn (.func 63) []) [x5] h) fun v1 h2 =>
    bnd (aConv tab 105 3 v1 h2) fun v3 =>
    bnd2 (aCall call md (.fn (.func 62) []) [v3] h2) fun v4 h5 =>
    bnd2 (aApp tab 22 22 md x5 v4 h5) fun v6 h7 =>
    bnd2 (aCall call md (.fn (.func 21) []) [v6] h7) fun v8 h9 =>
    bnd (aLit tab 30 1 [(0, v8)]) fun v10 =>
    k .normal (st 51 [(1, x1), (6, v10)]) h9
  := by kernel_rfl
theorem r32_3 {β : Type} (call : CallF) (md : Bool) (n : Nat) (k : Ex → List AV → Heap → Option β) (x1 x6 : AV) (h : Heap) :
    runK C0 call md 32 n (.region 3 (O32 3) false) k (st 51 [(1, x1), (6, x6)]) h =
    k .normal (st 51 [(1, x1), (6, x6), (7, (.int .i64 0))]) h
  := by kernel_rfl
theorem r32_4 {β : Type} (call : CallF) (md : Bool) (n : Nat) (k : Ex → List AV → Heap → Option β) (x1 x6 x7 : AV) (h : Heap) :
    runK C0 call md 32 n (.region 4 (O32 4) false) k (st 51 [(1, x1), (6, x6), (7, x7)]) h =
    bnd (aLen tab 22 x1) fun v1 =>
    bnd (aBinC tab .lss 3 x7 v1 false) fun v2 =>
    k .normal (st 51 [(1, x1), (6, x6), (7, x7), (31, v2)]) h
  := by kernel_rfl
theorem r32_5 {β : Type} (call : CallF) (md : Bool) (n : Nat) (k : Ex → List AV → Heap → Option β) (x1 x6 x7 : AV) (h : Heap) :
    runK C0 call md 32 n (.region 5 (O32 5) false) k (st 51 [(1, x1), (6, x6), (7, x7)]) h =
    bnd (aBinC tab .add 3 x7 (.int .i64 64) true) fun v1 =>
    k .normal (st 51 [(1, x1), (6, x6), (7, v1)]) h
  := by kernel_rfl
theorem r32_6 {β : Type} (call : CallF) (md : Bool) (n : Nat) (k : Ex → List AV → Heap → Option β) (x1 x6 x7 x31 : AV) (h : Heap) :
    runK C0 call md 32 n (.region 6 (O32 6) false) k (st 51 [(1, x1), (6, x6), (7, x7), (31, x31)]) h =
    bnd (aBinC tab .add 3 x7 (.int .i64 64) true) fun v1 =>
    k .normal (st 51 [(1, x1), (6, x6), (7, x7), (8, v1)]) h
  := by kernel_rfl
theorem r32_7 {β : Type} (call : CallF) (md : Bool) (n : Nat) (k : Ex → List AV → Heap → Option β) (x1 x6 x7 x8 : AV) (h : Heap) :
    runK C0 call md 32 n (.region 7 (O32 7) false) k (st 51 [(1, x1), (6, x6), (7, x7), (8, x8)]) h =
    bnd (aLen tab 22 x1) fun v1 =>
    bnd (aBinC tab .gtr 3 x8 v1 false) fun v2 =>
    k .normal (st 51 [(1, x1), (6, x6), (7, x7), (8, x8), (39, v2)]) h
  := by kernel_rfl
theorem r32_8 {β : Type} (call : CallF) (md : Bool) (n : Nat) (k : Ex → List AV → Heap → Option β) (x1 x6 x7 x8 x39 : AV) (h : Heap) :
    runK C0 call md 32 n (.region 8 (O32 8) false) k (st 51 [(1, x1), (6, x6), (7, x7), (8, x8), (39, x39)]) h =
    bnd (aLen tab 22 x1) fun v1 =>
    k .normal (st 51 [(1, x1), (6, x6), (7, x7), (8, v1)]) h
  := by kernel_rfl
theorem r32_9a {β : Type} (call : CallF) (md : Bool) (n : Nat) (k : Ex → List AV → Heap → Option β) (x1 x6 x7 x8 x39 : AV) (h : Heap) :
    runK C0 call md 32 n (.region 9 (O32 9) false) k (st 51 [(1, x1), (6, x6), (7, x7), (8, x8), (39, x39)]) h =
    bnd (aSlice tab 22 x1 (some x7) (some x8) none) fun v1 =>
    bnd2 (aCall call md (.fn (.func 21) []) [v1] h) fun v2 h3 =>
    bnd (aLit tab 30 1 [(0, v2)]) fun v4 =>
    bnd2 (aApp tab 30 30 md x6 v4 h3) fun v5 h6 =>
    k .normal (st 51 [(1, x1), (6, v5), (7, x7)]) h6
  := by kernel_rfl
theorem r32_9b {β : Type} (call : CallF) (md : Bool) (n : Nat) (k : Ex → List AV → Heap → Option β) (x1 x6 x7 x8 : AV) (h : Heap) :
    runK C0 call md 32 n (.region 9 (O32 9) false) k (st 51 [(1, x1), (6, x6), (7, x7), (8, x8)]) h =
    bnd (aSlice tab 22 x1 (some x7) (some x8) none) fun v1 =>
    bnd2 (aCall call md (.fn (.func 21) []) [v1] h) fun v2 h3 =>
    bnd (aLit tab 30 1 [(0, v2)]) fun v4 =>
    bnd2 (aApp tab 30 30 md x6 v4 h3) fun v5 h6 =>
    k .normal (st 51 [(1, x1), (6, v5), (7, x7)]) h6
  := by kernel_rfl
theorem r32_10 {β : Type} (call : CallF) (md : Bool) (n : Nat) (k : Ex → List AV → Heap → Option β) (x1 x6 x7 x31 : AV) (h : Heap) :
    runK C0 call md 32 n (.region 10 (O32 10) false) k (st 51 [(1, x1), (6, x6), (7, x7), (31, x31)]) h =
    k .normal (st 51 [(4, x6)]) h
  := by kernel_rfl
end Go.Ax

/- The reference's Sectors: an entry's sectors. -/
namespace Go.Ax
open Go Go.Proofs

/-- An entry's sectors. -/
def entryOf (gen : Int) (b : List UInt8) : List (List UInt8) := pad (head16 (BitVec.ofInt 32 gen) b) :: (List.range' 1 (nOf b - 1)).map fun j => pad (chunk b j)

theorem ApR.exact {S : Obs} {h : Heap} {v : AV} {b : List UInt8} (hv : Bs v b) : ApR S h (.vsl 22 [v] .exact) [b] := ⟨[v], .inr ⟨_, rfl, .inl rfl⟩, .cons hv .nil⟩

theorem sec_loop {x : AV} {b : List UInt8} (hx : Bs x b) (hb : b.length < 2 ^ 40) (hd : List UInt8) {S : Obs} (N : Nat) :
    ∀ (m j n : Nat) (h : Heap) (acc : AV), j + m = nOf b - 1 → m < n → Up S h → ApR S h acc (hd :: (List.range' 1 j).map fun j => pad (chunk b j)) →
    ∃ acc' h', (∀ K : Ex → List AV → Heap → Option (AV × Heap), loopK (fun next => runK C0 (exFn C0 E0 (N + 1)) false 32 (N + 1) B32_1 (seqE next K)) n (st 51 [(1, x), (6, acc), (7, .int .i64 ((64 * j : Nat) : Int))]) h =
      K (.exit 0) (st 51 [(1, x), (6, acc'), (7, .int .i64 ((64 * (nOf b - 1) : Nat) : Int)), (31, .bool false)]) h') ∧
      ApR S h' acc' (hd :: (List.range' 1 (nOf b - 1)).map fun j => pad (chunk b j)) ∧ Keep S h h' := by
  have hn := nOf_eq' b
  intro m
  induction m with
  | zero =>
    intro j n h acc hj hn' up hacc
    obtain ⟨n, rfl⟩ : ∃ j, n = j + 1 := ⟨n - 1, by omega⟩
    obtain rfl : j = nOf b - 1 := by omega
    refine ⟨acc, h, fun K => ?_, hacc, Keep.refl _ _⟩
    rw [loopK_succ]
    generalize loopK (_ : (List AV → Heap → Option (AV × Heap)) → List AV → Heap → Option (AV × Heap)) n = Lp
    have e : decide (((64 * (nOf b - 1) : Nat) : Int) < (b.length : Nat)) = false := decide_eq_false (by omega)
    simp -implicitDefEqProofs only [B32_1, ↓runK_seq, runK_seq, ↓runK_cond, runK_cond, ↓runK_block, runK_block, ↓runK_loop, runK_loop, ↓runK_skip, runK_skip, ↓runK_ret, runK_ret, ↓runK_exit, runK_exit, ↓seqE_n, seqE_n, ↓seqE_e, seqE_e, ↓seqE_r, seqE_r, ↓blkE_n, blkE_n, ↓blkE_e, blkE_e, ↓blkE_r, blkE_r, ↓retK_n, retK_n, ↓retK_r, retK_r, ↓aCall_fn, aCall_fn, ↓bnd_s, bnd_s, ↓bnd2_s, bnd2_s, ↓onB_t, onB_t, ↓onB_f, onB_f, ↓onG_tt, onG_tt, ↓onG_tf, onG_tf, ↓onG_ft, onG_ft, ↓onG_ff, onG_ff, ↓onG_s, onG_s, ↓onT_t, onT_t, ↓aPick_t, aPick_t, ↓aPick_f, aPick_f, decide_true, decide_false, st_tmp, results1, results2, List.lookup_cons, List.lookup_nil, Nat.reduceBEq, Bool.false_eq_true, ↓reduceIte, BEq.rfl, Nat.reduceLT, Option.getD_some, Option.getD_none, ↓r32_0, r32_0, ↓r32_1, r32_1, ↓r32_2, r32_2, ↓r32_3, r32_3, ↓r32_4, r32_4, ↓r32_5, r32_5, ↓r32_6, r32_6, ↓r32_7, r32_7, ↓r32_8, r32_8, ↓r32_9a, r32_9a, ↓r32_9b, r32_9b, ↓r32_10, r32_10, hx.len, bin_lss, e]
  | succ m ih =>
    intro j n h acc hj hn' up hacc
    obtain ⟨n, rfl⟩ : ∃ j, n = j + 1 := ⟨n - 1, by omega⟩
    have e : decide (((64 * j : Nat) : Int) < (b.length : Nat)) = true := decide_eq_true (by omega)
    have w1 : IntKind.i64.wrap (((64 * j : Nat) : Int) + 64) = ((64 * (j + 1) : Nat) : Int) := by rw [wrap_i64] <;> omega
    obtain ⟨y, sy, by'⟩ := hx.sub (64 * j) (min (64 * (j + 1)) b.length) (by omega) (by omega)
    have ce := chunk_eq b (j + 1) (by omega)
    rw [show 64 * (j + 1 - 1) = 64 * j by omega] at ce
    rw [ce] at by'
    obtain ⟨h1, f1, f2⟩ := fill_ok (h := h) (U := fun _ => False) (.inl by') (chunk_length b (j + 1)) N
    have bs1 : Bs (.vsl 5 ((pad (chunk b (j + 1))).map U8) .none) (pad (chunk b (j + 1))) := .inr ⟨_, rfl⟩
    obtain ⟨acc', h2, ap, a2, k2⟩ := (hacc.fresh f2).append (up.keep f2) bs1 (by simp; omega)
    have hl2 : (hd :: (List.range' 1 j).map fun j => pad (chunk b j)) ++ [pad (chunk b (j + 1))] = hd :: (List.range' 1 (j + 1)).map fun j => pad (chunk b j) := by
      rw [List.range'_concat]; simp [Nat.add_comm]
    rw [hl2] at a2
    have k12 := (f2.up up).trans k2
    obtain ⟨acc'', h3, g1, g2, g3⟩ := ih (j + 1) n h2 acc' (by omega) (by omega) (up.keep k12) a2
    refine ⟨acc'', h3, fun K => ?_, g2, k12.trans g3⟩
    rw [loopK_succ, ← g1 K]
    generalize loopK (_ : (List AV → Heap → Option (AV × Heap)) → List AV → Heap → Option (AV × Heap)) n = Lp
    by_cases q : b.length < 64 * (j + 1)
    · rw [Nat.min_eq_right (by omega)] at sy
      have e2 : decide (((b.length : Nat) : Int) < ((64 * (j + 1) : Nat) : Int)) = true := decide_eq_true (by omega)
      simp -implicitDefEqProofs only [B32_1, ↓runK_seq, runK_seq, ↓runK_cond, runK_cond, ↓runK_block, runK_block, ↓runK_loop, runK_loop, ↓runK_skip, runK_skip, ↓runK_ret, runK_ret, ↓runK_exit, runK_exit, ↓seqE_n, seqE_n, ↓seqE_e, seqE_e, ↓seqE_r, seqE_r, ↓blkE_n, blkE_n, ↓blkE_e, blkE_e, ↓blkE_r, blkE_r, ↓retK_n, retK_n, ↓retK_r, retK_r, ↓aCall_fn, aCall_fn, ↓bnd_s, bnd_s, ↓bnd2_s, bnd2_s, ↓onB_t, onB_t, ↓onB_f, onB_f, ↓onG_tt, onG_tt, ↓onG_tf, onG_tf, ↓onG_ft, onG_ft, ↓onG_ff, onG_ff, ↓onG_s, onG_s, ↓onT_t, onT_t, ↓aPick_t, aPick_t, ↓aPick_f, aPick_f, decide_true, decide_false, st_tmp, results1, results2, List.lookup_cons, List.lookup_nil, Nat.reduceBEq, Bool.false_eq_true, ↓reduceIte, BEq.rfl, Nat.reduceLT, Option.getD_some, Option.getD_none, ↓r32_0, r32_0, ↓r32_1, r32_1, ↓r32_2, r32_2, ↓r32_3, r32_3, ↓r32_4, r32_4, ↓r32_5, r32_5, ↓r32_6, r32_6, ↓r32_7, r32_7, ↓r32_8, r32_8, ↓r32_9a, r32_9a, ↓r32_9b, r32_9b, ↓r32_10, r32_10, hx.len, bin_lss, e, bin_add, w1, bin_gtr, e2, sy, f1, lit30 _ bs1.fits, app30, ap]
    · rw [Nat.min_eq_left (by omega)] at sy
      have e2 : decide (((b.length : Nat) : Int) < ((64 * (j + 1) : Nat) : Int)) = false := decide_eq_false (by omega)
      simp -implicitDefEqProofs only [B32_1, ↓runK_seq, runK_seq, ↓runK_cond, runK_cond, ↓runK_block, runK_block, ↓runK_loop, runK_loop, ↓runK_skip, runK_skip, ↓runK_ret, runK_ret, ↓runK_exit, runK_exit, ↓seqE_n, seqE_n, ↓seqE_e, seqE_e, ↓seqE_r, seqE_r, ↓blkE_n, blkE_n, ↓blkE_e, blkE_e, ↓blkE_r, blkE_r, ↓retK_n, retK_n, ↓retK_r, retK_r, ↓aCall_fn, aCall_fn, ↓bnd_s, bnd_s, ↓bnd2_s, bnd2_s, ↓onB_t, onB_t, ↓onB_f, onB_f, ↓onG_tt, onG_tt, ↓onG_tf, onG_tf, ↓onG_ft, onG_ft, ↓onG_ff, onG_ff, ↓onG_s, onG_s, ↓onT_t, onT_t, ↓aPick_t, aPick_t, ↓aPick_f, aPick_f, decide_true, decide_false, st_tmp, results1, results2, List.lookup_cons, List.lookup_nil, Nat.reduceBEq, Bool.false_eq_true, ↓reduceIte, BEq.rfl, Nat.reduceLT, Option.getD_some, Option.getD_none, ↓r32_0, r32_0, ↓r32_1, r32_1, ↓r32_2, r32_2, ↓r32_3, r32_3, ↓r32_4, r32_4, ↓r32_5, r32_5, ↓r32_6, r32_6, ↓r32_7, r32_7, ↓r32_8, r32_8, ↓r32_9a, r32_9a, ↓r32_9b, r32_9b, ↓r32_10, r32_10, hx.len, bin_lss, e, bin_add, w1, bin_gtr, e2, sy, f1, lit30 _ bs1.fits, app30, ap]

theorem ofInt_nat (n : Nat) : BitVec.ofInt 32 (n : Int) = BitVec.ofNat 32 n := by simp

theorem sectors_ok {x : AV} {b : List UInt8} (hx : Bs x b) (hb : b.length < 2 ^ 40) (gen : Int) (h : Heap) (k : Nat) (hk : b.length + 60 < k) :
    ∃ y h', exFn C0 E0 (k + 1) false 32 [.int .i64 gen, x] h = some (y, h') ∧ ApR (From h.length) h' y (entryOf gen b) ∧ Keep (From h.length) h h' := by
  obtain ⟨k, rfl⟩ : ∃ j, k = j + 1 := ⟨k - 1, by omega⟩
  have up := Up.fresh h
  have n0 : ([AV.int .i64 gen, x] ++ List.replicate (51 - [AV.int .i64 gen, x].length) AV.undef) = st 51 [(0, .int .i64 gen), (1, x)] := rfl
  have q1 := four_ok gen false h k
  have q2 := four_ok (b.length : Int) false h k
  rw [ofInt_nat] at q2
  have a0 : ApB (From h.length) h (.vsl 5 ((be4 (BitVec.ofInt 32 gen)).map U8) .exact) (be4 (BitVec.ofInt 32 gen)) := .inr ⟨_, rfl, .inl rfl⟩
  have by2 : By (fun _ => False) h (.vsl 5 ((be4 (BitVec.ofNat 32 b.length)).map U8) .exact) (be4 (BitVec.ofNat 32 b.length)) := .inl (.inr ⟨_, rfl⟩)
  obtain ⟨x1, h1, p1, ax1, k1, -⟩ := a0.app up (be4 (BitVec.ofNat 32 b.length)) (by simp [be4])
  have q3 := rcrc_ok hx (by omega) false h1 k (by omega)
  have q4 := four_ok ((crc b).toNat : Int) false h1 k
  rw [show BitVec.ofInt 32 ((crc b).toNat : Int) = crc b from ofInt_toNat32 _] at q4
  have by4 : By (fun _ => False) h1 (.vsl 5 ((be4 (crc b)).map U8) .exact) (be4 (crc b)) := .inl (.inr ⟨_, rfl⟩)
  obtain ⟨x2, h2, p2, ax2, k2, -⟩ := ApB.app (l := be4 (BitVec.ofInt 32 gen) ++ be4 (BitVec.ofNat 32 b.length)) ax1 (up.keep k1) (be4 (crc b)) (by simp [be4])
  have ax2' : ApB (From h.length) h2 x2 (head12 (BitVec.ofInt 32 gen) b) := ax2
  have q5 := rcrc_ok ax2'.bs (by simp [head12, be4]) false h2 k (by simp [head12, be4]; omega)
  have q6 := four_ok ((crc (head12 (BitVec.ofInt 32 gen) b)).toNat : Int) false h2 k
  rw [show BitVec.ofInt 32 ((crc (head12 (BitVec.ofInt 32 gen) b)).toNat : Int) = crc (head12 (BitVec.ofInt 32 gen) b) from ofInt_toNat32 _] at q6
  have by6 : By (fun _ => False) h2 (.vsl 5 ((be4 (crc (head12 (BitVec.ofInt 32 gen) b))).map U8) .exact) (be4 (crc (head12 (BitVec.ofInt 32 gen) b))) := .inl (.inr ⟨_, rfl⟩)
  obtain ⟨x3, h3, p3, ax3, k3, -⟩ := ApB.app (l := head12 (BitVec.ofInt 32 gen) b) ax2' ((up.keep k1).keep k2) (be4 (crc (head12 (BitVec.ofInt 32 gen) b))) (by simp [head12, be4])
  have ax3' : ApB (From h.length) h3 x3 (head16 (BitVec.ofInt 32 gen) b) := ax3
  obtain ⟨h4, f1, f2⟩ := fill_ok (h := h3) (U := fun _ => False) (.inl ax3'.bs) (by rw [head16_length]; omega) k
  have kk := (((k1.trans k2).trans k3).fresh f2 up)
  have bs1 : Bs (.vsl 5 ((pad (head16 (BitVec.ofInt 32 gen) b)).map U8) .none) (pad (head16 (BitVec.ofInt 32 gen) b)) := .inr ⟨_, rfl⟩
  have hn := nOf_eq' b
  obtain ⟨y, h5, g1, g2, g3⟩ := sec_loop hx hb (pad (head16 (BitVec.ofInt 32 gen) b)) (S := From h.length) k (nOf b - 1) 0 (k + 1) h4 _ (by omega) (by omega) (up.keep kk) (ApR.exact bs1)
  rw [show ((64 * 0 : Nat) : Int) = 0 from rfl] at g1
  refine ⟨y, h5, exFn_of e32 ?_, g2, kk.trans g3⟩
  rw [fnK, n0, s32]
  simp -implicitDefEqProofs only [↓runK_seq, runK_seq, ↓runK_cond, runK_cond, ↓runK_block, runK_block, ↓runK_loop, runK_loop, ↓runK_skip, runK_skip, ↓runK_ret, runK_ret, ↓runK_exit, runK_exit, ↓seqE_n, seqE_n, ↓seqE_e, seqE_e, ↓seqE_r, seqE_r, ↓blkE_n, blkE_n, ↓blkE_e, blkE_e, ↓blkE_r, blkE_r, ↓retK_n, retK_n, ↓retK_r, retK_r, ↓aCall_fn, aCall_fn, ↓bnd_s, bnd_s, ↓bnd2_s, bnd2_s, ↓onB_t, onB_t, ↓onB_f, onB_f, ↓onG_tt, onG_tt, ↓onG_tf, onG_tf, ↓onG_ft, onG_ft, ↓onG_ff, onG_ff, ↓onG_s, onG_s, ↓onT_t, onT_t, ↓aPick_t, aPick_t, ↓aPick_f, aPick_f, decide_true, decide_false, st_tmp, results1, results2, List.lookup_cons, List.lookup_nil, Nat.reduceBEq, Bool.false_eq_true, ↓reduceIte, BEq.rfl, Nat.reduceLT, Option.getD_some, Option.getD_none, ↓r32_0, r32_0, ↓r32_1, r32_1, ↓r32_2, r32_2, ↓r32_3, r32_3, ↓r32_4, r32_4, ↓r32_5, r32_5, ↓r32_6, r32_6, ↓r32_7, r32_7, ↓r32_8, r32_8, ↓r32_9a, r32_9a, ↓r32_9b, r32_9b, ↓r32_10, r32_10, q1, hx.len, q2, app22s by2.src, p1, q3, conv_32_64, q4, app22s by4.src, p2, q5, q6, app22s by6.src, p3, f1, lit30 _ bs1.fits]
  rw [g1]
  simp -implicitDefEqProofs only [↓runK_seq, runK_seq, ↓runK_cond, runK_cond, ↓runK_block, runK_block, ↓runK_loop, runK_loop, ↓runK_skip, runK_skip, ↓runK_ret, runK_ret, ↓runK_exit, runK_exit, ↓seqE_n, seqE_n, ↓seqE_e, seqE_e, ↓seqE_r, seqE_r, ↓blkE_n, blkE_n, ↓blkE_e, blkE_e, ↓blkE_r, blkE_r, ↓retK_n, retK_n, ↓retK_r, retK_r, ↓aCall_fn, aCall_fn, ↓bnd_s, bnd_s, ↓bnd2_s, bnd2_s, ↓onB_t, onB_t, ↓onB_f, onB_f, ↓onG_tt, onG_tt, ↓onG_tf, onG_tf, ↓onG_ft, onG_ft, ↓onG_ff, onG_ff, ↓onG_s, onG_s, ↓onT_t, onT_t, ↓aPick_t, aPick_t, ↓aPick_f, aPick_f, decide_true, decide_false, st_tmp, results1, results2, List.lookup_cons, List.lookup_nil, Nat.reduceBEq, Bool.false_eq_true, ↓reduceIte, BEq.rfl, Nat.reduceLT, Option.getD_some, Option.getD_none, ↓r32_0, r32_0, ↓r32_1, r32_1, ↓r32_2, r32_2, ↓r32_3, r32_3, ↓r32_4, r32_4, ↓r32_5, r32_5, ↓r32_6, r32_6, ↓r32_7, r32_7, ↓r32_8, r32_8, ↓r32_9a, r32_9a, ↓r32_9b, r32_9b, ↓r32_10, r32_10]
end Go.Ax

/- What the regions of some functions hand on. Printed by a program of mine (gen.py). -/
set_option linter.unusedVariables false
namespace Go.Ax
open Go Go.Proofs
/-! ### (*interregnum/interregnumref01.Disk).Clean -/
noncomputable def O29 (i : Nat) : Array Oper := opsOf i (bodyOf Try.f29)
noncomputable def B29_1 : Code := (.seq (.seq (.region 4 (O29 4) false) (.cond (Go.Operand.tmp 15) .skip (.exit 0))) (.seq (.block 1 (.seq (.region 6 (O29 6) true) (.cond (Go.Operand.tmp 23) (.seq (.seq (.region 7 (O29 7) false) (.seq (.region 8 (O29 8) false) (.cond (Go.Operand.tmp 28) (.seq (.region 9 (O29 9) false) .ret) .skip))) (.region 10 (O29 10) false)) .skip))) (.region 5 (O29 5) false)))
theorem s29 : bodyOf Try.f29 = (.seq (.region 0 (O29 0) false) (.seq (.seq (.region 1 (O29 1) false) (.cond (Go.Operand.tmp 10) (.region 2 (O29 2) false) .skip)) (.seq (.region 3 (O29 3) false) (.seq (.block 0 (.loop B29_1)) (.seq (.seq (.region 11 (O29 11) false) (.cond (Go.Operand.tmp 30) (.seq (.region 12 (O29 12) false) .ret) .skip)) (.seq (.region 13 (O29 13) false) .ret)))))) := by kernel_rfl
theorem e29 : E0 29 = some ⟨33, [6], bodyOf Try.f29⟩ := by kernel_rfl
theorem r29_0 {β : Type} (call : CallF) (md : Bool) (n : Nat) (k : Ex → List AV → Heap → Option β) (x0 x1 x2 : AV) (h : Heap) :
    runK C0 call md 29 n (.region 0 (O29 0) false) k (st 33 [(0, x0), (1, x1), (2, x2)]) h =
    k .normal (st 33 [(0, x0), (1, x1), (2, x2)]) h
  := by kernel_rfl
theorem r29_1 {β : Type} (call : CallF) (md : Bool) (n : Nat) (k : Ex → List AV → Heap → Option β) (x0 x1 x2 : AV) (h : Heap) :
    runK C0 call md 29 n (.region 1 (O29 1) false) k (st 33 [(0, x0), (1, x1), (2, x2)]) h =
    bnd (aBinC tab .lss 3 x1 (.int .i64 0) true) fun v1 =>
    k .normal (st 33 [(0, x0), (1, x1), (2, x2), (10, v1)]) h
  := by kernel_rfl
theorem r29_2 {β : Type} (call : CallF) (md : Bool) (n : Nat) (k : Ex → List AV → Heap → Option β) (x0 x1 x2 x10 : AV) (h : Heap) :
    runK C0 call md 29 n (.region 2 (O29 2) false) k (st 33 [(0, x0), (1, x1), (2, x2), (10, x10)]) h =
    k .normal (st 33 [(0, x0), (1, (.int .i64 0)), (2, x2)]) h
  := by kernel_rfl
theorem r29_3a {β : Type} (call : CallF) (md : Bool) (n : Nat) (k : Ex → List AV → Heap → Option β) (x0 x1 x2 x10 : AV) (h : Heap) :
    runK C0 call md 29 n (.region 3 (O29 3) false) k (st 33 [(0, x0), (1, x1), (2, x2), (10, x10)]) h =
    k .normal (st 33 [(0, x0), (1, x1), (2, x2), (7, (.bool false))]) h
  := by kernel_rfl
theorem r29_3b {β : Type} (call : CallF) (md : Bool) (n : Nat) (k : Ex → List AV → Heap → Option β) (x0 x1 x2 : AV) (h : Heap) :
    runK C0 call md 29 n (.region 3 (O29 3) false) k (st 33 [(0, x0), (1, x1), (2, x2)]) h =
    k .normal (st 33 [(0, x0), (1, x1), (2, x2), (7, (.bool false))]) h
  := by kernel_rfl
theorem r29_4 {β : Type} (call : CallF) (md : Bool) (n : Nat) (k : Ex → List AV → Heap → Option β) (x0 x1 x2 x7 : AV) (h : Heap) :
    runK C0 call md 29 n (.region 4 (O29 4) false) k (st 33 [(0, x0), (1, x1), (2, x2), (7, x7)]) h =
    bnd2 (aCall call md (.fn (.func 56) []) [x0, x2] h) fun v1 h2 =>
    bnd (aBinC tab .lss 3 x1 v1 false) fun v3 =>
    k .normal (st 33 [(0, x0), (1, x1), (2, x2), (7, x7), (15, v3)]) h2
  := by kernel_rfl
theorem r29_5a {β : Type} (call : CallF) (md : Bool) (n : Nat) (k : Ex → List AV → Heap → Option β) (x0 x1 x2 x7 x23 : AV) (h : Heap) :
    runK C0 call md 29 n (.region 5 (O29 5) false) k (st 33 [(0, x0), (1, x1), (2, x2), (7, x7), (23, x23)]) h =
    bnd (aBinC tab .add 3 x1 (.int .i64 1) true) fun v1 =>
    k .normal (st 33 [(0, x0), (1, v1), (2, x2), (7, x7)]) h
  := by kernel_rfl
theorem r29_5b {β : Type} (call : CallF) (md : Bool) (n : Nat) (k : Ex → List AV → Heap → Option β) (x0 x1 x2 x7 : AV) (h : Heap) :
    runK C0 call md 29 n (.region 5 (O29 5) false) k (st 33 [(0, x0), (1, x1), (2, x2), (7, x7)]) h =
    bnd (aBinC tab .add 3 x1 (.int .i64 1) true) fun v1 =>
    k .normal (st 33 [(0, x0), (1, v1), (2, x2), (7, x7)]) h
  := by kernel_rfl
theorem r29_6 {β : Type} (call : CallF) (md : Bool) (n : Nat) (k : Ex → List AV → Heap → Option β) (x0 x1 x2 x7 x15 : AV) (h : Heap) :
    runK C0 call md 29 n (.region 6 (O29 6) true) k (st 33 [(0, x0), (1, x1), (2, x2), (7, x7), (15, x15)]) h =
    bnd2 (aCall call md (.fn (.func 57) []) [x0, x1] h) fun v1 h2 =>
    bnd (aZeroSl tab 22 (.int .i64 64) (.int .i64 64)) fun v3 =>
    bnd2 (aCall call md (.fn (.func 22) []) [v1, v3] h2) fun v4 h5 =>
    bnd (aUn .not v4) fun v6 =>
    k .normal (st 33 [(0, x0), (1, x1), (2, x2), (7, x7), (23, v6)]) h5
  := by kernel_rfl
theorem r29_7 {β : Type} (call : CallF) (md : Bool) (n : Nat) (k : Ex → List AV → Heap → Option β) (x0 x1 x2 x7 x23 : AV) (h : Heap) :
    runK C0 call md 29 n (.region 7 (O29 7) false) k (st 33 [(0, x0), (1, x1), (2, x2), (7, x7), (23, x23)]) h =
    bnd2 (aCall call md (.fn (.func 54) []) [x0, x1, .nils] h) fun v1 h2 =>
    k .normal (st 33 [(0, x0), (1, x1), (2, x2), (8, v1)]) h2
  := by kernel_rfl
theorem r29_8 {β : Type} (call : CallF) (md : Bool) (n : Nat) (k : Ex → List AV → Heap → Option β) (x0 x1 x2 x8 : AV) (h : Heap) :
    runK C0 call md 29 n (.region 8 (O29 8) false) k (st 33 [(0, x0), (1, x1), (2, x2), (8, x8)]) h =
    bnd (aBinC tab .neq 27 x8 (.int .i64 0) true) fun v1 =>
    k .normal (st 33 [(0, x0), (1, x1), (2, x2), (8, x8), (28, v1)]) h
  := by kernel_rfl
theorem r29_9 {β : Type} (call : CallF) (md : Bool) (n : Nat) (k : Ex → List AV → Heap → Option β) (x0 x1 x2 x8 x28 : AV) (h : Heap) :
    runK C0 call md 29 n (.region 9 (O29 9) false) k (st 33 [(0, x0), (1, x1), (2, x2), (8, x8), (28, x28)]) h =
    k .normal (st 33 [(6, x8)]) h
  := by kernel_rfl
theorem r29_10 {β : Type} (call : CallF) (md : Bool) (n : Nat) (k : Ex → List AV → Heap → Option β) (x0 x1 x2 x8 x28 : AV) (h : Heap) :
    runK C0 call md 29 n (.region 10 (O29 10) false) k (st 33 [(0, x0), (1, x1), (2, x2), (8, x8), (28, x28)]) h =
    k .normal (st 33 [(0, x0), (1, x1), (2, x2), (7, (.bool true))]) h
  := by kernel_rfl
theorem r29_11 {β : Type} (call : CallF) (md : Bool) (n : Nat) (k : Ex → List AV → Heap → Option β) (x0 x1 x2 x7 x15 : AV) (h : Heap) :
    runK C0 call md 29 n (.region 11 (O29 11) false) k (st 33 [(0, x0), (1, x1), (2, x2), (7, x7), (15, x15)]) h =
    k .normal (st 33 [(0, x0), (30, x7)]) h
  := by kernel_rfl
theorem r29_12 {β : Type} (call : CallF) (md : Bool) (n : Nat) (k : Ex → List AV → Heap → Option β) (x0 x30 : AV) (h : Heap) :
    runK C0 call md 29 n (.region 12 (O29 12) false) k (st 33 [(0, x0), (30, x30)]) h =
    bnd2 (aCall call md (.fn (.func 55) []) [x0] h) fun v1 h2 =>
    k .normal (st 33 [(6, v1)]) h2
  := by kernel_rfl
theorem r29_13 {β : Type} (call : CallF) (md : Bool) (n : Nat) (k : Ex → List AV → Heap → Option β) (x0 x30 : AV) (h : Heap) :
    runK C0 call md 29 n (.region 13 (O29 13) false) k (st 33 [(0, x0), (30, x30)]) h =
    k .normal (st 33 [(6, (.int .i64 0))]) h
  := by kernel_rfl
end Go.Ax

/- The reference's Clean. -/
namespace Go.Ax
open Go Go.Proofs

theorem rwrite_fuse (d : Dk) (a : Int) (b : List UInt8) : (d.rwrite a b).2.fuse ≤ d.fuse := by
  unfold Dk.rwrite
  split
  · exact Int.le_refl _
  · split
    · exact Int.le_refl _
    · simp only [Dk.add, Dk.rburn]; split <;> omega
theorem rwrite_loose (d : Dk) (a : Int) (b : List UInt8) : (d.rwrite a b).2.loose.length ≤ d.loose.length + 1 := by
  unfold Dk.rwrite
  split
  · simp
  · split
    · simp [Dk.rdown]
    · simp [Dk.rburn, Dk.add]
theorem rwrite_len (d : Dk) (a : Int) (b : List UInt8) : (d.rwrite a b).2.lasts.length = d.lasts.length := by
  unfold Dk.rwrite
  split
  · rfl
  · split <;> rfl

theorem blank_iff {l : List UInt8} (h : l.length = 64) : (l = List.replicate 64 0) ↔ l.all (· == 0) = true := by
  constructor
  · rintro rfl; simp
  · intro ha
    rw [← h]
    refine List.eq_replicate_iff.2 ⟨rfl, fun b hb => ?_⟩
    have := List.all_eq_true.1 ha b hb
    simpa using this

def rcleanLoop : Nat → Nat → Bool → Dk → Int × Bool × Dk
  | 0, _, s, d => (0, s, d)
  | m + 1, i, s, d =>
    if ((d.now[i]?).getD []).all (· == 0) then rcleanLoop m (i + 1) s d
    else if (d.rwrite i []).1 = 0 then rcleanLoop m (i + 1) true (d.rwrite i []).2
    else ((d.rwrite i []).1, s, (d.rwrite i []).2)
theorem rcleanLoop_zero (i : Nat) (s : Bool) (d : Dk) : rcleanLoop 0 i s d = (0, s, d) := rfl
theorem rcleanLoop_blank {m i : Nat} {s : Bool} {d : Dk} (h : ((d.now[i]?).getD []).all (· == 0) = true) : rcleanLoop (m + 1) i s d = rcleanLoop m (i + 1) s d := if_pos h
theorem rcleanLoop_go {m i : Nat} {s : Bool} {d : Dk} (h : ((d.now[i]?).getD []).all (· == 0) = false) (h2 : (d.rwrite i []).1 = 0) : rcleanLoop (m + 1) i s d = rcleanLoop m (i + 1) true (d.rwrite i []).2 := by
  rw [rcleanLoop, if_neg (by simp [h]), if_pos h2]
theorem rcleanLoop_no {m i : Nat} {s : Bool} {d : Dk} (h : ((d.now[i]?).getD []).all (· == 0) = false) (h2 : (d.rwrite i []).1 ≠ 0) : rcleanLoop (m + 1) i s d = ((d.rwrite i []).1, s, (d.rwrite i []).2) := by
  rw [rcleanLoop, if_neg (by simp [h]), if_neg h2]
theorem rcleanLoop_loose : ∀ (m i : Nat) (s : Bool) (d : Dk), (rcleanLoop m i s d).2.2.loose.length ≤ d.loose.length + m ∧ (rcleanLoop m i s d).2.2.fuse ≤ d.fuse ∧ (rcleanLoop m i s d).2.2.lasts.length = d.lasts.length := by
  intro m
  induction m with
  | zero => intro i s d; simp [rcleanLoop]
  | succ m ih =>
    intro i s d
    cases hz : ((d.now[i]?).getD []).all (· == 0)
    · by_cases hw : (d.rwrite i []).1 = 0
      · rw [rcleanLoop_go hz hw]
        have := ih (i + 1) true (d.rwrite i []).2
        have h1 := rwrite_loose d i []
        have h2 := rwrite_fuse d i []
        have h3 := rwrite_len d i []
        omega
      · rw [rcleanLoop_no hz hw]
        have h1 := rwrite_loose d i []
        have h2 := rwrite_fuse d i []
        have h3 := rwrite_len d i []
        simp only
        omega
    · rw [rcleanLoop_blank hz]
      have := ih (i + 1) s d
      omega

theorem Rsk.now_length {S : Obs} {h : Heap} {p r : Nat} {d : Dk} (_ : Rsk S h p r d) : d.now.length = d.lasts.length := land_length _ _
theorem Rsk.now_cells {S : Obs} {h : Heap} {p r : Nat} {d : Dk} (D : Rsk S h p r d) : ∀ b ∈ d.now, b.length = 64 := land_cells _ _ D.cells fun w hw => (D.loose w hw).2

theorem rclean_loop {S : Obs} {p r : Nat} (e : Int) (N : Nat) (hN2 : 80 < N) :
    ∀ (m i n : Nat) (s : Bool) (d : Dk) (h : Heap), m = (min e d.lasts.length - i).toNat → m < n → Up S h → Rsk S h p r d → d.loose.length + m < 2 ^ 29 → d.loose.length + m + 10 < N → d.fuse < 2 ^ 63 →
    ∃ h' j, (∀ K : Ex → List AV → Heap → Option (AV × Heap), loopK (fun next => runK C0 (exFn C0 E0 (N + 3)) false 29 (N + 3) B29_1 (seqE next K)) n (st 33 [(0, rp p), (1, .int .i64 i), (2, .int .i64 e), (7, .bool s)]) h =
      if (rcleanLoop m i s d).1 = 0 then K (.exit 0) (st 33 [(0, rp p), (1, j), (2, .int .i64 e), (7, .bool (rcleanLoop m i s d).2.1), (15, .bool false)]) h'
      else K .ret (st 33 [(6, .int .i64 (rcleanLoop m i s d).1)]) h') ∧
      Rsk S h' p r (rcleanLoop m i s d).2.2 ∧ Keep S h h' := by
  intro m
  induction m with
  | zero =>
    intro i n s d h hm hn up D hl hN hf
    obtain ⟨n, rfl⟩ : ∃ j, n = j + 1 := ⟨n - 1, by omega⟩
    rw [rcleanLoop_zero]
    refine ⟨h, .int .i64 i, fun K => ?_, D, Keep.refl _ _⟩
    rw [if_pos rfl, loopK_succ]
    generalize loopK (_ : (List AV → Heap → Option (AV × Heap)) → List AV → Heap → Option (AV × Heap)) n = Lp
    have lk := rend_ok D e false (N + 2)
    have e1 : decide ((i : Int) < min e d.lasts.length) = false := decide_eq_false (by omega)
    simp -implicitDefEqProofs only [B29_1, ↓runK_seq, runK_seq, ↓runK_cond, runK_cond, ↓runK_block, runK_block, ↓runK_loop, runK_loop, ↓runK_skip, runK_skip, ↓runK_ret, runK_ret, ↓runK_exit, runK_exit, ↓seqE_n, seqE_n, ↓seqE_e, seqE_e, ↓seqE_r, seqE_r, ↓blkE_n, blkE_n, ↓blkE_e, blkE_e, ↓blkE_r, blkE_r, ↓retK_n, retK_n, ↓retK_r, retK_r, ↓aCall_fn, aCall_fn, ↓bnd_s, bnd_s, ↓bnd2_s, bnd2_s, ↓onB_t, onB_t, ↓onB_f, onB_f, ↓onG_tt, onG_tt, ↓onG_tf, onG_tf, ↓onG_ft, onG_ft, ↓onG_ff, onG_ff, ↓onG_s, onG_s, ↓onT_t, onT_t, ↓aPick_t, aPick_t, ↓aPick_f, aPick_f, decide_true, decide_false, st_tmp, results1, results2, List.lookup_cons, List.lookup_nil, Nat.reduceBEq, Bool.false_eq_true, ↓reduceIte, BEq.rfl, Nat.reduceLT, Option.getD_some, Option.getD_none, ↓r29_0, r29_0, ↓r29_1, r29_1, ↓r29_2, r29_2, ↓r29_3a, r29_3a, ↓r29_3b, r29_3b, ↓r29_4, r29_4, ↓r29_5a, r29_5a, ↓r29_5b, r29_5b, ↓r29_6, r29_6, ↓r29_7, r29_7, ↓r29_8, r29_8, ↓r29_9, r29_9, ↓r29_10, r29_10, ↓r29_11, r29_11, ↓r29_12, r29_12, ↓r29_13, r29_13, lk, bin_lss, e1]
  | succ m ih =>
    intro i n s d h hm hn up D hl hN hf
    obtain ⟨n, rfl⟩ : ∃ j, n = j + 1 := ⟨n - 1, by omega⟩
    have hfew := D.few
    have lk := rend_ok D e false (N + 2)
    have e1 : decide ((i : Int) < min e d.lasts.length) = true := decide_eq_true (by omega)
    have hlt : i < d.now.length := by rw [D.now_length]; omega
    have wr : IntKind.i64.wrap ((i : Int) + 1) = ((i + 1 : Nat) : Int) := by rw [wrap_i64] <;> omega
    obtain ⟨y, r1, r2⟩ := rread_ok D (by omega) (i : Int) false (N + 2) (by omega)
    have hrd : d.rread (i : Int) = (d.now[i]?).getD [] := by
      unfold Dk.rread
      rw [if_pos ⟨by omega, by rw [D.now_length] at hlt; omega⟩, Int.toNat_natCast]
    rw [hrd] at r2
    have hc : ((d.now[i]?).getD []).length = 64 := by rw [List.getElem?_eq_getElem hlt]; exact D.now_cells _ (List.getElem_mem hlt)
    have zs : Bs (.vsl 5 ((List.replicate 64 (0 : UInt8)).map U8) .none) (List.replicate 64 0) := .inr ⟨_, rfl⟩
    have sm := same_ok r2 zs (by omega) false h (N + 3) (by omega)
    have hbi := blank_iff hc
    cases hz : ((d.now[i]?).getD []).all (· == 0)
    · rw [decide_eq_false (fun e => by rw [hbi.1 e] at hz; cases hz)] at sm
      obtain ⟨h2, w1, D2, k2⟩ := rwrite_ok D up (i : Int) (x := .nils) (b := []) (U := fun _ => False) (.inl (.inl ⟨rfl, rfl⟩)) (fun _ _ h => h.elim) (by omega) hf N
      have a1 := rwrite_loose d i []
      have a2 := rwrite_fuse d i []
      have a3 := rwrite_len d i []
      by_cases hw : (d.rwrite i []).1 = 0
      · rw [rcleanLoop_go hz hw]
        obtain ⟨h3, j, g1, g2, g3⟩ := ih (i + 1) n true _ h2 (by omega) (by omega) (up.keep k2) D2 (by omega) (by omega) (by omega)
        refine ⟨h3, j, fun K => ?_, g2, k2.trans g3⟩
        rw [loopK_succ, ← g1 K]
        generalize loopK (_ : (List AV → Heap → Option (AV × Heap)) → List AV → Heap → Option (AV × Heap)) n = Lp
        rw [hw] at w1
        have c0 : decide ((0 : Int) ≠ 0) = false := by decide
        simp -implicitDefEqProofs only [B29_1, ↓runK_seq, runK_seq, ↓runK_cond, runK_cond, ↓runK_block, runK_block, ↓runK_loop, runK_loop, ↓runK_skip, runK_skip, ↓runK_ret, runK_ret, ↓runK_exit, runK_exit, ↓seqE_n, seqE_n, ↓seqE_e, seqE_e, ↓seqE_r, seqE_r, ↓blkE_n, blkE_n, ↓blkE_e, blkE_e, ↓blkE_r, blkE_r, ↓retK_n, retK_n, ↓retK_r, retK_r, ↓aCall_fn, aCall_fn, ↓bnd_s, bnd_s, ↓bnd2_s, bnd2_s, ↓onB_t, onB_t, ↓onB_f, onB_f, ↓onG_tt, onG_tt, ↓onG_tf, onG_tf, ↓onG_ft, onG_ft, ↓onG_ff, onG_ff, ↓onG_s, onG_s, ↓onT_t, onT_t, ↓aPick_t, aPick_t, ↓aPick_f, aPick_f, decide_true, decide_false, st_tmp, results1, results2, List.lookup_cons, List.lookup_nil, Nat.reduceBEq, Bool.false_eq_true, ↓reduceIte, BEq.rfl, Nat.reduceLT, Option.getD_some, Option.getD_none, ↓r29_0, r29_0, ↓r29_1, r29_1, ↓r29_2, r29_2, ↓r29_3a, r29_3a, ↓r29_3b, r29_3b, ↓r29_4, r29_4, ↓r29_5a, r29_5a, ↓r29_5b, r29_5b, ↓r29_6, r29_6, ↓r29_7, r29_7, ↓r29_8, r29_8, ↓r29_9, r29_9, ↓r29_10, r29_10, ↓r29_11, r29_11, ↓r29_12, r29_12, ↓r29_13, r29_13, lk, bin_lss, e1, r1, zerosl, sm, un_not, Bool.not_false, w1, neq27, c0, bin_add, wr]
      · rw [rcleanLoop_no hz hw]
        refine ⟨h2, .undef, fun K => ?_, D2, k2⟩
        rw [if_neg hw, loopK_succ]
        generalize loopK (_ : (List AV → Heap → Option (AV × Heap)) → List AV → Heap → Option (AV × Heap)) n = Lp
        have c0 : decide ((d.rwrite (i : Int) []).1 ≠ 0) = true := decide_eq_true hw
        simp -implicitDefEqProofs only [B29_1, ↓runK_seq, runK_seq, ↓runK_cond, runK_cond, ↓runK_block, runK_block, ↓runK_loop, runK_loop, ↓runK_skip, runK_skip, ↓runK_ret, runK_ret, ↓runK_exit, runK_exit, ↓seqE_n, seqE_n, ↓seqE_e, seqE_e, ↓seqE_r, seqE_r, ↓blkE_n, blkE_n, ↓blkE_e, blkE_e, ↓blkE_r, blkE_r, ↓retK_n, retK_n, ↓retK_r, retK_r, ↓aCall_fn, aCall_fn, ↓bnd_s, bnd_s, ↓bnd2_s, bnd2_s, ↓onB_t, onB_t, ↓onB_f, onB_f, ↓onG_tt, onG_tt, ↓onG_tf, onG_tf, ↓onG_ft, onG_ft, ↓onG_ff, onG_ff, ↓onG_s, onG_s, ↓onT_t, onT_t, ↓aPick_t, aPick_t, ↓aPick_f, aPick_f, decide_true, decide_false, st_tmp, results1, results2, List.lookup_cons, List.lookup_nil, Nat.reduceBEq, Bool.false_eq_true, ↓reduceIte, BEq.rfl, Nat.reduceLT, Option.getD_some, Option.getD_none, ↓r29_0, r29_0, ↓r29_1, r29_1, ↓r29_2, r29_2, ↓r29_3a, r29_3a, ↓r29_3b, r29_3b, ↓r29_4, r29_4, ↓r29_5a, r29_5a, ↓r29_5b, r29_5b, ↓r29_6, r29_6, ↓r29_7, r29_7, ↓r29_8, r29_8, ↓r29_9, r29_9, ↓r29_10, r29_10, ↓r29_11, r29_11, ↓r29_12, r29_12, ↓r29_13, r29_13, lk, bin_lss, e1, r1, zerosl, sm, un_not, Bool.not_false, w1, neq27, c0]
    · rw [decide_eq_true (hbi.2 hz)] at sm
      rw [rcleanLoop_blank hz]
      obtain ⟨h3, j, g1, g2, g3⟩ := ih (i + 1) n s d h (by omega) (by omega) up D (by omega) (by omega) hf
      refine ⟨h3, j, fun K => ?_, g2, g3⟩
      rw [loopK_succ, ← g1 K]
      generalize loopK (_ : (List AV → Heap → Option (AV × Heap)) → List AV → Heap → Option (AV × Heap)) n = Lp
      simp -implicitDefEqProofs only [B29_1, ↓runK_seq, runK_seq, ↓runK_cond, runK_cond, ↓runK_block, runK_block, ↓runK_loop, runK_loop, ↓runK_skip, runK_skip, ↓runK_ret, runK_ret, ↓runK_exit, runK_exit, ↓seqE_n, seqE_n, ↓seqE_e, seqE_e, ↓seqE_r, seqE_r, ↓blkE_n, blkE_n, ↓blkE_e, blkE_e, ↓blkE_r, blkE_r, ↓retK_n, retK_n, ↓retK_r, retK_r, ↓aCall_fn, aCall_fn, ↓bnd_s, bnd_s, ↓bnd2_s, bnd2_s, ↓onB_t, onB_t, ↓onB_f, onB_f, ↓onG_tt, onG_tt, ↓onG_tf, onG_tf, ↓onG_ft, onG_ft, ↓onG_ff, onG_ff, ↓onG_s, onG_s, ↓onT_t, onT_t, ↓aPick_t, aPick_t, ↓aPick_f, aPick_f, decide_true, decide_false, st_tmp, results1, results2, List.lookup_cons, List.lookup_nil, Nat.reduceBEq, Bool.false_eq_true, ↓reduceIte, BEq.rfl, Nat.reduceLT, Option.getD_some, Option.getD_none, ↓r29_0, r29_0, ↓r29_1, r29_1, ↓r29_2, r29_2, ↓r29_3a, r29_3a, ↓r29_3b, r29_3b, ↓r29_4, r29_4, ↓r29_5a, r29_5a, ↓r29_5b, r29_5b, ↓r29_6, r29_6, ↓r29_7, r29_7, ↓r29_8, r29_8, ↓r29_9, r29_9, ↓r29_10, r29_10, ↓r29_11, r29_11, ↓r29_12, r29_12, ↓r29_13, r29_13, lk, bin_lss, e1, r1, zerosl, sm, un_not, Bool.not_true, bin_add, wr]

def Dk.rclean (d : Dk) (a e : Int) : Int × Dk :=
  let r := rcleanLoop (min e d.lasts.length - max a 0).toNat (max a 0).toNat false d
  if r.1 ≠ 0 then (r.1, r.2.2) else if r.2.1 then r.2.2.rflush else (0, r.2.2)

theorem rclean_ok {S : Obs} {p r : Nat} {h : Heap} {d : Dk} (D : Rsk S h p r d) (up : Up S h) (hl : d.loose.length < 2 ^ 28) (hf : d.fuse < 2 ^ 63) (a e : Int) (k : Nat) (hk : d.loose.length + 9000 < k) :
    ∃ h', exFn C0 E0 (k + 1) false 29 [rp p, .int .i64 a, .int .i64 e] h = some (.int .i64 (d.rclean a e).1, h') ∧ Rsk S h' p r (d.rclean a e).2 ∧ Keep S h h' := by
  obtain ⟨k, rfl⟩ : ∃ j, k = j + 3 := ⟨k - 3, by omega⟩
  have hfew := D.few
  have n0 : ([rp p, .int .i64 a, .int .i64 e] ++ List.replicate (33 - [rp p, AV.int .i64 a, .int .i64 e].length) AV.undef) = st 33 [(0, rp p), (1, .int .i64 a), (2, .int .i64 e)] := rfl
  have hcl := rcleanLoop_loose (min e d.lasts.length - max a 0).toNat (max a 0).toNat false d
  obtain ⟨h1, j, f1, f2, f3⟩ := rclean_loop (S := S) (p := p) (r := r) e k (by omega) (min e d.lasts.length - max a 0).toNat (max a 0).toNat (k + 3) false d h (by omega) (by omega) up D (by omega) (by omega) hf
  unfold Dk.rclean
  generalize hL : rcleanLoop (min e d.lasts.length - max a 0).toNat (max a 0).toNat false d = L at *
  obtain ⟨le, ls, ld⟩ := L
  simp only at f1 f2 hcl ⊢
  -- the clamp
  have run : ∀ r : AV × Heap, (∀ K : Ex → List AV → Heap → Option (AV × Heap), True) →
      loopK (fun next => runK C0 (exFn C0 E0 (k + 3)) false 29 (k + 3) B29_1 (seqE next (blkE 0 (seqE (runK C0 (exFn C0 E0 (k + 3)) false 29 (k + 3) (.seq (.seq (.region 11 (O29 11) false) (.cond (.tmp 30) (.seq (.region 12 (O29 12) false) .ret) .skip)) (.seq (.region 13 (O29 13) false) .ret)) (retK [6])) (retK [6]))))) (k + 3)
        (st 33 [(0, rp p), (1, .int .i64 ((max a 0).toNat : Nat)), (2, .int .i64 e), (7, .bool false)]) h = some r → exFn C0 E0 (k + 3 + 1) false 29 [rp p, .int .i64 a, .int .i64 e] h = some r := by
    intro r _ hr
    refine exFn_of e29 ?_
    rw [fnK, n0, s29]
    by_cases q : a < 0
    · rw [show (((max a 0).toNat : Nat) : Int) = 0 by omega] at hr
      simp -implicitDefEqProofs only [↓runK_seq, runK_seq, ↓runK_cond, runK_cond, ↓runK_block, runK_block, ↓runK_loop, runK_loop, ↓runK_skip, runK_skip, ↓runK_ret, runK_ret, ↓runK_exit, runK_exit, ↓seqE_n, seqE_n, ↓seqE_e, seqE_e, ↓seqE_r, seqE_r, ↓blkE_n, blkE_n, ↓blkE_e, blkE_e, ↓blkE_r, blkE_r, ↓retK_n, retK_n, ↓retK_r, retK_r, ↓aCall_fn, aCall_fn, ↓bnd_s, bnd_s, ↓bnd2_s, bnd2_s, ↓onB_t, onB_t, ↓onB_f, onB_f, ↓onG_tt, onG_tt, ↓onG_tf, onG_tf, ↓onG_ft, onG_ft, ↓onG_ff, onG_ff, ↓onG_s, onG_s, ↓onT_t, onT_t, ↓aPick_t, aPick_t, ↓aPick_f, aPick_f, decide_true, decide_false, st_tmp, results1, results2, List.lookup_cons, List.lookup_nil, Nat.reduceBEq, Bool.false_eq_true, ↓reduceIte, BEq.rfl, Nat.reduceLT, Option.getD_some, Option.getD_none, ↓r29_0, r29_0, ↓r29_1, r29_1, ↓r29_2, r29_2, ↓r29_3a, r29_3a, ↓r29_3b, r29_3b, ↓r29_4, r29_4, ↓r29_5a, r29_5a, ↓r29_5b, r29_5b, ↓r29_6, r29_6, ↓r29_7, r29_7, ↓r29_8, r29_8, ↓r29_9, r29_9, ↓r29_10, r29_10, ↓r29_11, r29_11, ↓r29_12, r29_12, ↓r29_13, r29_13, bin_lss, decide_eq_true q]
      exact hr
    · rw [show (((max a 0).toNat : Nat) : Int) = a by omega] at hr
      simp -implicitDefEqProofs only [↓runK_seq, runK_seq, ↓runK_cond, runK_cond, ↓runK_block, runK_block, ↓runK_loop, runK_loop, ↓runK_skip, runK_skip, ↓runK_ret, runK_ret, ↓runK_exit, runK_exit, ↓seqE_n, seqE_n, ↓seqE_e, seqE_e, ↓seqE_r, seqE_r, ↓blkE_n, blkE_n, ↓blkE_e, blkE_e, ↓blkE_r, blkE_r, ↓retK_n, retK_n, ↓retK_r, retK_r, ↓aCall_fn, aCall_fn, ↓bnd_s, bnd_s, ↓bnd2_s, bnd2_s, ↓onB_t, onB_t, ↓onB_f, onB_f, ↓onG_tt, onG_tt, ↓onG_tf, onG_tf, ↓onG_ft, onG_ft, ↓onG_ff, onG_ff, ↓onG_s, onG_s, ↓onT_t, onT_t, ↓aPick_t, aPick_t, ↓aPick_f, aPick_f, decide_true, decide_false, st_tmp, results1, results2, List.lookup_cons, List.lookup_nil, Nat.reduceBEq, Bool.false_eq_true, ↓reduceIte, BEq.rfl, Nat.reduceLT, Option.getD_some, Option.getD_none, ↓r29_0, r29_0, ↓r29_1, r29_1, ↓r29_2, r29_2, ↓r29_3a, r29_3a, ↓r29_3b, r29_3b, ↓r29_4, r29_4, ↓r29_5a, r29_5a, ↓r29_5b, r29_5b, ↓r29_6, r29_6, ↓r29_7, r29_7, ↓r29_8, r29_8, ↓r29_9, r29_9, ↓r29_10, r29_10, ↓r29_11, r29_11, ↓r29_12, r29_12, ↓r29_13, r29_13, bin_lss, decide_eq_false q]
      exact hr
  by_cases z1 : le = 0
  · subst z1
    rw [if_neg (fun h => h rfl)]
    simp only [if_true] at f1
    cases ls
    · rw [if_neg Bool.false_ne_true]
      refine ⟨h1, run _ (fun _ => trivial) ?_, f2, f3⟩
      rw [f1]
      simp -implicitDefEqProofs only [↓runK_seq, runK_seq, ↓runK_cond, runK_cond, ↓runK_block, runK_block, ↓runK_loop, runK_loop, ↓runK_skip, runK_skip, ↓runK_ret, runK_ret, ↓runK_exit, runK_exit, ↓seqE_n, seqE_n, ↓seqE_e, seqE_e, ↓seqE_r, seqE_r, ↓blkE_n, blkE_n, ↓blkE_e, blkE_e, ↓blkE_r, blkE_r, ↓retK_n, retK_n, ↓retK_r, retK_r, ↓aCall_fn, aCall_fn, ↓bnd_s, bnd_s, ↓bnd2_s, bnd2_s, ↓onB_t, onB_t, ↓onB_f, onB_f, ↓onG_tt, onG_tt, ↓onG_tf, onG_tf, ↓onG_ft, onG_ft, ↓onG_ff, onG_ff, ↓onG_s, onG_s, ↓onT_t, onT_t, ↓aPick_t, aPick_t, ↓aPick_f, aPick_f, decide_true, decide_false, st_tmp, results1, results2, List.lookup_cons, List.lookup_nil, Nat.reduceBEq, Bool.false_eq_true, ↓reduceIte, BEq.rfl, Nat.reduceLT, Option.getD_some, Option.getD_none, ↓r29_0, r29_0, ↓r29_1, r29_1, ↓r29_2, r29_2, ↓r29_3a, r29_3a, ↓r29_3b, r29_3b, ↓r29_4, r29_4, ↓r29_5a, r29_5a, ↓r29_5b, r29_5b, ↓r29_6, r29_6, ↓r29_7, r29_7, ↓r29_8, r29_8, ↓r29_9, r29_9, ↓r29_10, r29_10, ↓r29_11, r29_11, ↓r29_12, r29_12, ↓r29_13, r29_13]
    · rw [if_pos rfl]
      obtain ⟨h2, g1, g2, g3⟩ := rflush_ok f2 (by omega) (by omega) false (k + 2) (by omega)
      refine ⟨h2, run _ (fun _ => trivial) ?_, g2, f3.trans g3⟩
      rw [f1]
      simp -implicitDefEqProofs only [↓runK_seq, runK_seq, ↓runK_cond, runK_cond, ↓runK_block, runK_block, ↓runK_loop, runK_loop, ↓runK_skip, runK_skip, ↓runK_ret, runK_ret, ↓runK_exit, runK_exit, ↓seqE_n, seqE_n, ↓seqE_e, seqE_e, ↓seqE_r, seqE_r, ↓blkE_n, blkE_n, ↓blkE_e, blkE_e, ↓blkE_r, blkE_r, ↓retK_n, retK_n, ↓retK_r, retK_r, ↓aCall_fn, aCall_fn, ↓bnd_s, bnd_s, ↓bnd2_s, bnd2_s, ↓onB_t, onB_t, ↓onB_f, onB_f, ↓onG_tt, onG_tt, ↓onG_tf, onG_tf, ↓onG_ft, onG_ft, ↓onG_ff, onG_ff, ↓onG_s, onG_s, ↓onT_t, onT_t, ↓aPick_t, aPick_t, ↓aPick_f, aPick_f, decide_true, decide_false, st_tmp, results1, results2, List.lookup_cons, List.lookup_nil, Nat.reduceBEq, Bool.false_eq_true, ↓reduceIte, BEq.rfl, Nat.reduceLT, Option.getD_some, Option.getD_none, ↓r29_0, r29_0, ↓r29_1, r29_1, ↓r29_2, r29_2, ↓r29_3a, r29_3a, ↓r29_3b, r29_3b, ↓r29_4, r29_4, ↓r29_5a, r29_5a, ↓r29_5b, r29_5b, ↓r29_6, r29_6, ↓r29_7, r29_7, ↓r29_8, r29_8, ↓r29_9, r29_9, ↓r29_10, r29_10, ↓r29_11, r29_11, ↓r29_12, r29_12, ↓r29_13, r29_13, g1]
  · rw [if_pos z1]
    refine ⟨h1, run _ (fun _ => trivial) ?_, f2, f3⟩
    rw [f1, if_neg z1]
    simp -implicitDefEqProofs only [↓runK_seq, runK_seq, ↓runK_cond, runK_cond, ↓runK_block, runK_block, ↓runK_loop, runK_loop, ↓runK_skip, runK_skip, ↓runK_ret, runK_ret, ↓runK_exit, runK_exit, ↓seqE_n, seqE_n, ↓seqE_e, seqE_e, ↓seqE_r, seqE_r, ↓blkE_n, blkE_n, ↓blkE_e, blkE_e, ↓blkE_r, blkE_r, ↓retK_n, retK_n, ↓retK_r, retK_r, ↓aCall_fn, aCall_fn, ↓bnd_s, bnd_s, ↓bnd2_s, bnd2_s, ↓onB_t, onB_t, ↓onB_f, onB_f, ↓onG_tt, onG_tt, ↓onG_tf, onG_tf, ↓onG_ft, onG_ft, ↓onG_ff, onG_ff, ↓onG_s, onG_s, ↓onT_t, onT_t, ↓aPick_t, aPick_t, ↓aPick_f, aPick_f, decide_true, decide_false, st_tmp, results1, results2, List.lookup_cons, List.lookup_nil, Nat.reduceBEq, Bool.false_eq_true, ↓reduceIte, BEq.rfl, Nat.reduceLT, Option.getD_some, Option.getD_none]
end Go.Ax

/- What the regions of some functions hand on. Printed by a program of mine (gen.py). -/
set_option linter.unusedVariables false
namespace Go.Ax
open Go Go.Proofs
/-! ### interregnum/interregnumlaw03.same -/
noncomputable def O30 (i : Nat) : Array Oper := opsOf i (bodyOf Try.f30)
noncomputable def B30_1 : Code := (.seq (.seq (.region 4 (O30 4) false) (.cond (Go.Operand.tmp 24) .skip (.exit 0))) (.seq (.block 1 (.seq (.region 6 (O30 6) false) (.seq (.region 7 (O30 7) false) (.seq (.region 8 (O30 8) false) (.cond (Go.Operand.tmp 64) (.seq (.region 9 (O30 9) false) .ret) .skip))))) (.region 5 (O30 5) false)))
theorem s30 : bodyOf Try.f30 = (.seq (.region 0 (O30 0) false) (.seq (.seq (.region 1 (O30 1) true) (.cond (Go.Operand.tmp 17) (.seq (.region 2 (O30 2) false) .ret) .skip)) (.seq (.seq (.region 3 (O30 3) false) (.block 0 (.loop B30_1))) (.seq (.region 10 (O30 10) false) .ret)))) := by kernel_rfl
theorem e30 : E0 30 = some ⟨65, [4], bodyOf Try.f30⟩ := by kernel_rfl
theorem r30_0 {β : Type} (call : CallF) (md : Bool) (n : Nat) (k : Ex → List AV → Heap → Option β) (x0 x1 : AV) (h : Heap) :
    runK C0 call md 30 n (.region 0 (O30 0) false) k (st 65 [(0, x0), (1, x1)]) h =
    k .normal (st 65 [(0, x0), (1, x1)]) h
  := by kernel_rfl
theorem r30_1 {β : Type} (call : CallF) (md : Bool) (n : Nat) (k : Ex → List AV → Heap → Option β) (x0 x1 : AV) (h : Heap) :
    runK C0 call md 30 n (.region 1 (O30 1) true) k (st 65 [(0, x0), (1, x1)]) h =
    bnd2 (aCall call md (.fn (.func 46) []) [x0] h) fun v1 h2 =>
    bnd (aNil x1) fun v3 =>
    bnd (aFieldAddr tab 74 v3 0) fun v4 =>
    bnd (aLoad tab 30 v4 h2) fun v5 =>
    bnd (aLen tab 30 v5) fun v6 =>
    bnd (aBinC tab .neq 3 v1 v6 false) fun v7 =>
    onT (rdSame (aLoad tab 30 v4 h) v5) <|
      k .normal (st 65 [(0, x0), (1, x1), (17, v7)]) h2
  := by kernel_rfl
theorem r30_2 {β : Type} (call : CallF) (md : Bool) (n : Nat) (k : Ex → List AV → Heap → Option β) (x0 x1 x17 : AV) (h : Heap) :
    runK C0 call md 30 n (.region 2 (O30 2) false) k (st 65 [(0, x0), (1, x1), (17, x17)]) h =
    k .normal (st 65 [(4, (.bool false))]) h
  := by kernel_rfl
theorem r30_3 {β : Type} (call : CallF) (md : Bool) (n : Nat) (k : Ex → List AV → Heap → Option β) (x0 x1 x17 : AV) (h : Heap) :
    runK C0 call md 30 n (.region 3 (O30 3) false) k (st 65 [(0, x0), (1, x1), (17, x17)]) h =
    k .normal (st 65 [(0, x0), (1, x1), (5, (.int .i64 0))]) h
  := by kernel_rfl
theorem r30_4 {β : Type} (call : CallF) (md : Bool) (n : Nat) (k : Ex → List AV → Heap → Option β) (x0 x1 x5 : AV) (h : Heap) :
    runK C0 call md 30 n (.region 4 (O30 4) false) k (st 65 [(0, x0), (1, x1), (5, x5)]) h =
    bnd (aNil x1) fun v1 =>
    bnd (aFieldAddr tab 74 v1 0) fun v2 =>
    bnd (aLoad tab 30 v2 h) fun v3 =>
    bnd (aLen tab 30 v3) fun v4 =>
    bnd (aBinC tab .lss 3 x5 v4 false) fun v5 =>
    k .normal (st 65 [(0, x0), (1, x1), (5, x5), (24, v5)]) h
  := by kernel_rfl
theorem r30_5 {β : Type} (call : CallF) (md : Bool) (n : Nat) (k : Ex → List AV → Heap → Option β) (x0 x1 x5 x64 : AV) (h : Heap) :
    runK C0 call md 30 n (.region 5 (O30 5) false) k (st 65 [(0, x0), (1, x1), (5, x5), (64, x64)]) h =
    bnd (aBinC tab .add 3 x5 (.int .i64 1) true) fun v1 =>
    k .normal (st 65 [(0, x0), (1, x1), (5, v1)]) h
  := by kernel_rfl
theorem r30_6 {β : Type} (call : CallF) (md : Bool) (n : Nat) (k : Ex → List AV → Heap → Option β) (x0 x1 x5 x24 : AV) (h : Heap) :
    runK C0 call md 30 n (.region 6 (O30 6) false) k (st 65 [(0, x0), (1, x1), (5, x5), (24, x24)]) h =
    bnd2 (aCall call md (.fn (.func 38) []) [x0, x5] h) fun v1 h2 =>
    bnd (aExtract v1 0) fun v3 =>
    bnd (aExtract v1 1) fun v4 =>
    k .normal (st 65 [(0, x0), (1, x1), (5, x5), (6, v3), (7, v4)]) h2
  := by kernel_rfl
theorem r30_7 {β : Type} (call : CallF) (md : Bool) (n : Nat) (k : Ex → List AV → Heap → Option β) (x0 x1 x5 x6 x7 : AV) (h : Heap) :
    runK C0 call md 30 n (.region 7 (O30 7) false) k (st 65 [(0, x0), (1, x1), (5, x5), (6, x6), (7, x7)]) h =
    bnd2 (aCall call md (.fn (.func 20) []) [x0, x5] h) fun v1 h2 =>
    bnd (aExtract v1 0) fun v3 =>
    bnd (aExtract v1 1) fun v4 =>
    k .normal (st 65 [(0, x0), (1, x1), (5, x5), (6, x6), (7, x7), (8, v3), (9, v4)]) h2
  := by kernel_rfl
def J30_8_6 {β : Type} (call : CallF) (md : Bool) (k : Ex → List AV → Heap → Option β) (x0 x1 x5 x53 x63 : AV) (h : Heap) : Option β :=
    bnd (aPick x53 (.bool true) x63) fun v1 =>
    k .normal (st 65 [(0, x0), (1, x1), (5, x5), (64, v1)]) h

theorem j30_8_6 {β : Type} (call : CallF) (md : Bool) (k : Ex → List AV → Heap → Option β) (x0 x1 x5 x6 x7 x8 x9 x39 x40 x41 x42 x43 x44 x45 x46 x47 x48 x49 x50 x51 x52 x53 x54 x55 x56 x57 x58 x59 x60 x61 x62 x63 : AV) (h : Heap) :
    opsK C0 call md 30 (O30 8) ((O30 8).toList.drop 25) (st 65 [(0, x0), (1, x1), (5, x5), (6, x6), (7, x7), (8, x8), (9, x9), (39, x39), (40, x40), (41, x41), (42, x42), (43, x43), (44, x44), (45, x45), (46, x46), (47, x47), (48, x48), (49, x49), (50, x50), (51, x51), (52, x52), (53, x53), (54, x54), (55, x55), (56, x56), (57, x57), (58, x58), (59, x59), (60, x60), (61, x61), (62, x62), (63, x63)]) h (fun tm h => k .normal (clr (C0.keep 30 8) tm) h) = J30_8_6 call md k x0 x1 x5 x53 x63 h := by kernel_rfl
def J30_8_5 {β : Type} (call : CallF) (md : Bool) (k : Ex → List AV → Heap → Option β) (x0 x1 x5 x8 x53 : AV) (h : Heap) : Option β :=
    onG false x53 (
      bnd (aNil x1) fun v3 =>
      bnd (aFieldAddr tab 74 v3 0) fun v4 =>
      bnd (aLoad tab 30 v4 h) fun v5 =>
      bnd (aIndexAddr tab 30 v5 x5) fun v6 =>
      bnd (aLoad tab 22 v6 h) fun v7 =>
      bnd2 (aCall call md (.fn (.func 22) []) [x8, v7] h) fun v8 h9 =>
      bnd (aUn .not v8) fun v10 =>
      J30_8_6 call md k x0 x1 x5 x53 v10 h9) (
      J30_8_6 call md k x0 x1 x5 x53 .skip h)

theorem g30_8_5 {β : Type} (call : CallF) (md : Bool) (kk : List AV → Heap → Option β) (x0 x1 x5 x6 x7 x8 x9 x39 x40 x41 x42 x43 x44 x45 x46 x47 x48 x49 x50 x51 x52 x53 : AV) (h : Heap) :
    opsK C0 call md 30 (O30 8) (((O30 8).toList.drop 15).take 10) (st 65 [(0, x0), (1, x1), (5, x5), (6, x6), (7, x7), (8, x8), (9, x9), (39, x39), (40, x40), (41, x41), (42, x42), (43, x43), (44, x44), (45, x45), (46, x46), (47, x47), (48, x48), (49, x49), (50, x50), (51, x51), (52, x52), (53, x53)]) h kk =
    onG false x53 (
      bnd (aNil x1) fun v11 =>
      bnd (aFieldAddr tab 74 v11 0) fun v12 =>
      bnd (aLoad tab 30 v12 h) fun v13 =>
      bnd (aIndexAddr tab 30 v13 x5) fun v14 =>
      bnd (aLoad tab 22 v14 h) fun v15 =>
      bnd2 (aCall call md (.fn (.func 22) []) [x8, v15] h) fun v16 h17 =>
      bnd (aUn .not v16) fun v18 =>
      kk (st 65 [(0, x0), (1, x1), (5, x5), (6, x6), (7, x7), (8, x8), (9, x9), (39, x39), (40, x40), (41, x41), (42, x42), (43, x43), (44, x44), (45, x45), (46, x46), (47, x47), (48, x48), (49, x49), (50, x50), (51, x51), (52, x52), (53, x53), (54, x8), (55, x1), (56, v11), (57, v12), (58, v13), (59, x5), (60, v14), (61, v15), (62, v16), (63, v18)]) h17) (
      kk (st 65 [(0, x0), (1, x1), (5, x5), (6, x6), (7, x7), (8, x8), (9, x9), (39, x39), (40, x40), (41, x41), (42, x42), (43, x43), (44, x44), (45, x45), (46, x46), (47, x47), (48, x48), (49, x49), (50, x50), (51, x51), (52, x52), (53, x53), (54, .skip), (55, .skip), (56, .skip), (57, .skip), (58, .skip), (59, .skip), (60, .skip), (61, .skip), (62, .skip), (63, .skip)]) h)
  := by cases x53 with | bool b => (cases b <;> kernel_rfl) | _ => kernel_rfl
theorem j30_8_5 {β : Type} (call : CallF) (md : Bool) (k : Ex → List AV → Heap → Option β) (x0 x1 x5 x6 x7 x8 x9 x39 x40 x41 x42 x43 x44 x45 x46 x47 x48 x49 x50 x51 x52 x53 : AV) (h : Heap) :
    opsK C0 call md 30 (O30 8) ((O30 8).toList.drop 15) (st 65 [(0, x0), (1, x1), (5, x5), (6, x6), (7, x7), (8, x8), (9, x9), (39, x39), (40, x40), (41, x41), (42, x42), (43, x43), (44, x44), (45, x45), (46, x46), (47, x47), (48, x48), (49, x49), (50, x50), (51, x51), (52, x52), (53, x53)]) h (fun tm h => k .normal (clr (C0.keep 30 8) tm) h) = J30_8_5 call md k x0 x1 x5 x8 x53 h := by
  have e : ((O30 8).toList.drop 15) = ((O30 8).toList.drop 15).take 10 ++ (O30 8).toList.drop 25 := by kernel_rfl
  rw [show opsK C0 call md 30 (O30 8) ((O30 8).toList.drop 15) = opsK C0 call md 30 (O30 8) (((O30 8).toList.drop 15).take 10 ++ (O30 8).toList.drop 25) from congrArg _ e]
  rw [opsK_append, g30_8_5]
  simp only [j30_8_6]
  rfl
def J30_8_4 {β : Type} (call : CallF) (md : Bool) (k : Ex → List AV → Heap → Option β) (x0 x1 x5 x8 x45 x51 : AV) (h : Heap) : Option β :=
    bnd (aPick x45 (.bool true) x51) fun v19 =>
    J30_8_5 call md k x0 x1 x5 x8 v19 h

theorem g30_8_4 {β : Type} (call : CallF) (md : Bool) (kk : List AV → Heap → Option β) (x0 x1 x5 x6 x7 x8 x9 x39 x40 x41 x42 x43 x44 x45 x46 x47 x48 x49 x50 x51 : AV) (h : Heap) :
    opsK C0 call md 30 (O30 8) (((O30 8).toList.drop 13).take 2) (st 65 [(0, x0), (1, x1), (5, x5), (6, x6), (7, x7), (8, x8), (9, x9), (39, x39), (40, x40), (41, x41), (42, x42), (43, x43), (44, x44), (45, x45), (46, x46), (47, x47), (48, x48), (49, x49), (50, x50), (51, x51)]) h kk =
    bnd (aPick x45 (.bool true) x51) fun v20 =>
    kk (st 65 [(0, x0), (1, x1), (5, x5), (6, x6), (7, x7), (8, x8), (9, x9), (39, x39), (40, x40), (41, x41), (42, x42), (43, x43), (44, x44), (45, x45), (46, x46), (47, x47), (48, x48), (49, x49), (50, x50), (51, x51), (52, v20), (53, v20)]) h
  := by kernel_rfl
theorem j30_8_4 {β : Type} (call : CallF) (md : Bool) (k : Ex → List AV → Heap → Option β) (x0 x1 x5 x6 x7 x8 x9 x39 x40 x41 x42 x43 x44 x45 x46 x47 x48 x49 x50 x51 : AV) (h : Heap) :
    opsK C0 call md 30 (O30 8) ((O30 8).toList.drop 13) (st 65 [(0, x0), (1, x1), (5, x5), (6, x6), (7, x7), (8, x8), (9, x9), (39, x39), (40, x40), (41, x41), (42, x42), (43, x43), (44, x44), (45, x45), (46, x46), (47, x47), (48, x48), (49, x49), (50, x50), (51, x51)]) h (fun tm h => k .normal (clr (C0.keep 30 8) tm) h) = J30_8_4 call md k x0 x1 x5 x8 x45 x51 h := by
  have e : ((O30 8).toList.drop 13) = ((O30 8).toList.drop 13).take 2 ++ (O30 8).toList.drop 15 := by kernel_rfl
  rw [show opsK C0 call md 30 (O30 8) ((O30 8).toList.drop 13) = opsK C0 call md 30 (O30 8) (((O30 8).toList.drop 13).take 2 ++ (O30 8).toList.drop 15) from congrArg _ e]
  rw [opsK_append, g30_8_4]
  simp only [j30_8_5]
  rfl
def J30_8_3 {β : Type} (call : CallF) (md : Bool) (k : Ex → List AV → Heap → Option β) (x0 x1 x5 x6 x8 x45 : AV) (h : Heap) : Option β :=
    onG false x45 (
      bnd2 (aCall call md (.fn (.func 57) []) [x1, x5] h) fun v21 h22 =>
      bnd2 (aCall call md (.fn (.func 22) []) [x6, v21] h22) fun v23 h24 =>
      bnd (aUn .not v23) fun v25 =>
      J30_8_4 call md k x0 x1 x5 x8 x45 v25 h24) (
      J30_8_4 call md k x0 x1 x5 x8 x45 .skip h)

theorem g30_8_3 {β : Type} (call : CallF) (md : Bool) (kk : List AV → Heap → Option β) (x0 x1 x5 x6 x7 x8 x9 x39 x40 x41 x42 x43 x44 x45 : AV) (h : Heap) :
    opsK C0 call md 30 (O30 8) (((O30 8).toList.drop 7).take 6) (st 65 [(0, x0), (1, x1), (5, x5), (6, x6), (7, x7), (8, x8), (9, x9), (39, x39), (40, x40), (41, x41), (42, x42), (43, x43), (44, x44), (45, x45)]) h kk =
    onG false x45 (
      bnd2 (aCall call md (.fn (.func 57) []) [x1, x5] h) fun v26 h27 =>
      bnd2 (aCall call md (.fn (.func 22) []) [x6, v26] h27) fun v28 h29 =>
      bnd (aUn .not v28) fun v30 =>
      kk (st 65 [(0, x0), (1, x1), (5, x5), (6, x6), (7, x7), (8, x8), (9, x9), (39, x39), (40, x40), (41, x41), (42, x42), (43, x43), (44, x44), (45, x45), (46, x6), (47, x1), (48, x5), (49, v26), (50, v28), (51, v30)]) h29) (
      kk (st 65 [(0, x0), (1, x1), (5, x5), (6, x6), (7, x7), (8, x8), (9, x9), (39, x39), (40, x40), (41, x41), (42, x42), (43, x43), (44, x44), (45, x45), (46, .skip), (47, .skip), (48, .skip), (49, .skip), (50, .skip), (51, .skip)]) h)
  := by cases x45 with | bool b => (cases b <;> kernel_rfl) | _ => kernel_rfl
theorem j30_8_3 {β : Type} (call : CallF) (md : Bool) (k : Ex → List AV → Heap → Option β) (x0 x1 x5 x6 x7 x8 x9 x39 x40 x41 x42 x43 x44 x45 : AV) (h : Heap) :
    opsK C0 call md 30 (O30 8) ((O30 8).toList.drop 7) (st 65 [(0, x0), (1, x1), (5, x5), (6, x6), (7, x7), (8, x8), (9, x9), (39, x39), (40, x40), (41, x41), (42, x42), (43, x43), (44, x44), (45, x45)]) h (fun tm h => k .normal (clr (C0.keep 30 8) tm) h) = J30_8_3 call md k x0 x1 x5 x6 x8 x45 h := by
  have e : ((O30 8).toList.drop 7) = ((O30 8).toList.drop 7).take 6 ++ (O30 8).toList.drop 13 := by kernel_rfl
  rw [show opsK C0 call md 30 (O30 8) ((O30 8).toList.drop 7) = opsK C0 call md 30 (O30 8) (((O30 8).toList.drop 7).take 6 ++ (O30 8).toList.drop 13) from congrArg _ e]
  rw [opsK_append, g30_8_3]
  simp only [j30_8_4]
  rfl
def J30_8_2 {β : Type} (call : CallF) (md : Bool) (k : Ex → List AV → Heap → Option β) (x0 x1 x5 x6 x8 x41 x43 : AV) (h : Heap) : Option β :=
    bnd (aPick x41 (.bool true) x43) fun v31 =>
    J30_8_3 call md k x0 x1 x5 x6 x8 v31 h

theorem g30_8_2 {β : Type} (call : CallF) (md : Bool) (kk : List AV → Heap → Option β) (x0 x1 x5 x6 x7 x8 x9 x39 x40 x41 x42 x43 : AV) (h : Heap) :
    opsK C0 call md 30 (O30 8) (((O30 8).toList.drop 5).take 2) (st 65 [(0, x0), (1, x1), (5, x5), (6, x6), (7, x7), (8, x8), (9, x9), (39, x39), (40, x40), (41, x41), (42, x42), (43, x43)]) h kk =
    bnd (aPick x41 (.bool true) x43) fun v32 =>
    kk (st 65 [(0, x0), (1, x1), (5, x5), (6, x6), (7, x7), (8, x8), (9, x9), (39, x39), (40, x40), (41, x41), (42, x42), (43, x43), (44, v32), (45, v32)]) h
  := by kernel_rfl
theorem j30_8_2 {β : Type} (call : CallF) (md : Bool) (k : Ex → List AV → Heap → Option β) (x0 x1 x5 x6 x7 x8 x9 x39 x40 x41 x42 x43 : AV) (h : Heap) :
    opsK C0 call md 30 (O30 8) ((O30 8).toList.drop 5) (st 65 [(0, x0), (1, x1), (5, x5), (6, x6), (7, x7), (8, x8), (9, x9), (39, x39), (40, x40), (41, x41), (42, x42), (43, x43)]) h (fun tm h => k .normal (clr (C0.keep 30 8) tm) h) = J30_8_2 call md k x0 x1 x5 x6 x8 x41 x43 h := by
  have e : ((O30 8).toList.drop 5) = ((O30 8).toList.drop 5).take 2 ++ (O30 8).toList.drop 7 := by kernel_rfl
  rw [show opsK C0 call md 30 (O30 8) ((O30 8).toList.drop 5) = opsK C0 call md 30 (O30 8) (((O30 8).toList.drop 5).take 2 ++ (O30 8).toList.drop 7) from congrArg _ e]
  rw [opsK_append, g30_8_2]
  simp only [j30_8_3]
  rfl
def J30_8_1 {β : Type} (call : CallF) (md : Bool) (k : Ex → List AV → Heap → Option β) (x0 x1 x5 x6 x8 x9 x41 : AV) (h : Heap) : Option β :=
    onG false x41 (
      bnd (aBinC tab .neq 27 x9 (.int .i64 0) true) fun v33 =>
      J30_8_2 call md k x0 x1 x5 x6 x8 x41 v33 h) (
      J30_8_2 call md k x0 x1 x5 x6 x8 x41 .skip h)

theorem g30_8_1 {β : Type} (call : CallF) (md : Bool) (kk : List AV → Heap → Option β) (x0 x1 x5 x6 x7 x8 x9 x39 x40 x41 : AV) (h : Heap) :
    opsK C0 call md 30 (O30 8) (((O30 8).toList.drop 3).take 2) (st 65 [(0, x0), (1, x1), (5, x5), (6, x6), (7, x7), (8, x8), (9, x9), (39, x39), (40, x40), (41, x41)]) h kk =
    onG false x41 (
      bnd (aBinC tab .neq 27 x9 (.int .i64 0) true) fun v34 =>
      kk (st 65 [(0, x0), (1, x1), (5, x5), (6, x6), (7, x7), (8, x8), (9, x9), (39, x39), (40, x40), (41, x41), (42, x9), (43, v34)]) h) (
      kk (st 65 [(0, x0), (1, x1), (5, x5), (6, x6), (7, x7), (8, x8), (9, x9), (39, x39), (40, x40), (41, x41), (42, .skip), (43, .skip)]) h)
  := by cases x41 with | bool b => (cases b <;> kernel_rfl) | _ => kernel_rfl
theorem j30_8_1 {β : Type} (call : CallF) (md : Bool) (k : Ex → List AV → Heap → Option β) (x0 x1 x5 x6 x7 x8 x9 x39 x40 x41 : AV) (h : Heap) :
    opsK C0 call md 30 (O30 8) ((O30 8).toList.drop 3) (st 65 [(0, x0), (1, x1), (5, x5), (6, x6), (7, x7), (8, x8), (9, x9), (39, x39), (40, x40), (41, x41)]) h (fun tm h => k .normal (clr (C0.keep 30 8) tm) h) = J30_8_1 call md k x0 x1 x5 x6 x8 x9 x41 h := by
  have e : ((O30 8).toList.drop 3) = ((O30 8).toList.drop 3).take 2 ++ (O30 8).toList.drop 5 := by kernel_rfl
  rw [show opsK C0 call md 30 (O30 8) ((O30 8).toList.drop 3) = opsK C0 call md 30 (O30 8) (((O30 8).toList.drop 3).take 2 ++ (O30 8).toList.drop 5) from congrArg _ e]
  rw [opsK_append, g30_8_1]
  simp only [j30_8_2]
  rfl
def J30_8_0 {β : Type} (call : CallF) (md : Bool) (k : Ex → List AV → Heap → Option β) (x0 x1 x5 x6 x7 x8 x9 : AV) (h : Heap) : Option β :=
    bnd (aBinC tab .neq 27 x7 (.int .i64 0) true) fun v35 =>
    J30_8_1 call md k x0 x1 x5 x6 x8 x9 v35 h

theorem g30_8_0 {β : Type} (call : CallF) (md : Bool) (kk : List AV → Heap → Option β) (x0 x1 x5 x6 x7 x8 x9 : AV) (h : Heap) :
    opsK C0 call md 30 (O30 8) ((O30 8).toList.take 3) (st 65 [(0, x0), (1, x1), (5, x5), (6, x6), (7, x7), (8, x8), (9, x9)]) h kk =
    bnd (aBinC tab .neq 27 x7 (.int .i64 0) true) fun v36 =>
    kk (st 65 [(0, x0), (1, x1), (5, x5), (6, x6), (7, x7), (8, x8), (9, x9), (39, x7), (40, v36), (41, v36)]) h
  := by kernel_rfl
theorem j30_8_0 {β : Type} (call : CallF) (md : Bool) (k : Ex → List AV → Heap → Option β) (x0 x1 x5 x6 x7 x8 x9 : AV) (h : Heap) :
    opsK C0 call md 30 (O30 8) (O30 8).toList (st 65 [(0, x0), (1, x1), (5, x5), (6, x6), (7, x7), (8, x8), (9, x9)]) h (fun tm h => k .normal (clr (C0.keep 30 8) tm) h) = J30_8_0 call md k x0 x1 x5 x6 x7 x8 x9 h := by
  have e : (O30 8).toList = (O30 8).toList.take 3 ++ (O30 8).toList.drop 3 := by kernel_rfl
  rw [show opsK C0 call md 30 (O30 8) (O30 8).toList = opsK C0 call md 30 (O30 8) ((O30 8).toList.take 3 ++ (O30 8).toList.drop 3) from congrArg _ e]
  rw [opsK_append, g30_8_0]
  simp only [j30_8_1]
  rfl
theorem r30_8 {β : Type} (call : CallF) (md : Bool) (n : Nat) (k : Ex → List AV → Heap → Option β) (x0 x1 x5 x6 x7 x8 x9 : AV) (h : Heap) :
    runK C0 call md 30 n (.region 8 (O30 8) false) k (st 65 [(0, x0), (1, x1), (5, x5), (6, x6), (7, x7), (8, x8), (9, x9)]) h = J30_8_0 call md k x0 x1 x5 x6 x7 x8 x9 h := (runK_region C0 call md 30 n 8 (O30 8) k (st 65 [(0, x0), (1, x1), (5, x5), (6, x6), (7, x7), (8, x8), (9, x9)]) h).trans (j30_8_0 call md k x0 x1 x5 x6 x7 x8 x9 h)
theorem r30_9 {β : Type} (call : CallF) (md : Bool) (n : Nat) (k : Ex → List AV → Heap → Option β) (x0 x1 x5 x64 : AV) (h : Heap) :
    runK C0 call md 30 n (.region 9 (O30 9) false) k (st 65 [(0, x0), (1, x1), (5, x5), (64, x64)]) h =
    k .normal (st 65 [(4, (.bool false))]) h
  := by kernel_rfl
theorem r30_10 {β : Type} (call : CallF) (md : Bool) (n : Nat) (k : Ex → List AV → Heap → Option β) (x0 x1 x5 x24 : AV) (h : Heap) :
    runK C0 call md 30 n (.region 10 (O30 10) false) k (st 65 [(0, x0), (1, x1), (5, x5), (24, x24)]) h =
    k .normal (st 65 [(4, (.bool true))]) h
  := by kernel_rfl
end Go.Ax

/- The program's disk and the reference's: the same happens to both. -/
namespace Go.Ax
open Go Go.Proofs

/-- Both disks are the same, but for the fuse of one that is down. -/
structure DkEq (d v : Dk) : Prop where
  lasts : d.lasts = v.lasts
  loose : d.loose = v.loose
  down : d.down = v.down
  fuse : d.down = false → d.fuse = v.fuse

theorem DkEq.now {d v : Dk} (e : DkEq d v) : d.now = v.now := by unfold Dk.now; rw [e.lasts, e.loose]
theorem DkEq.has {d v : Dk} (e : DkEq d v) (i : Int) : d.has i ↔ v.has i := by unfold Dk.has; rw [e.lasts]
theorem DkEq.off {d v : Dk} (e : DkEq d v) : d.burn.down = true ↔ v.off := by
  unfold Dk.off
  simp only [Dk.burn, Bool.or_eq_true, decide_eq_true_eq]
  rw [← e.down]
  cases h : d.down
  · rw [← e.fuse h]
  · simp
theorem DkEq.write {d v : Dk} (e : DkEq d v) (a : Int) (b : List UInt8) : (d.write a b).1 = (v.rwrite a b).1 ∧ DkEq (d.write a b).2 (v.rwrite a b).2 := by
  unfold Dk.write Dk.rwrite
  by_cases h1 : ¬ d.has a ∨ 64 < b.length
  · have h1' : ¬ v.has a ∨ 64 < b.length := by rw [← e.has]; exact h1
    rw [if_pos h1, if_pos h1']
    exact ⟨rfl, e⟩
  · have h1' : ¬ (¬ v.has a ∨ 64 < b.length) := by rw [← e.has]; exact h1
    rw [if_neg h1, if_neg h1']
    by_cases h2 : d.burn.down = true
    · rw [if_pos h2, if_pos (e.off.1 h2)]
      exact ⟨rfl, e.lasts, e.loose, by rw [h2]; rfl, fun h => by rw [h2] at h; cases h⟩
    · rw [if_neg h2, if_neg (fun h => h2 (e.off.2 h))]
      have hd : d.down = false := by
        simp only [Dk.burn, Bool.or_eq_true, decide_eq_true_eq, not_or] at h2
        simpa using h2.1
      have hf := e.fuse hd
      refine ⟨rfl, e.lasts, ?_, ?_, fun _ => ?_⟩
      · simp only [Dk.add, Dk.burn, Dk.rburn]; rw [e.loose]
      · simp only [Dk.add, Dk.rburn]; rw [← e.down, hd]; simpa using h2
      · simp only [Dk.add, Dk.burn, Dk.rburn]; rw [hf]
theorem DkEq.flush {d v : Dk} (e : DkEq d v) : d.flush.1 = v.rflush.1 ∧ DkEq d.flush.2 v.rflush.2 := by
  unfold Dk.flush Dk.rflush
  by_cases h2 : d.burn.down = true
  · rw [if_pos h2, if_pos (e.off.1 h2)]
    exact ⟨rfl, e.lasts, e.loose, by rw [h2]; rfl, fun h => by rw [h2] at h; cases h⟩
  · rw [if_neg h2, if_neg (fun h => h2 (e.off.2 h))]
    have hd : d.down = false := by
      simp only [Dk.burn, Bool.or_eq_true, decide_eq_true_eq, not_or] at h2
      simpa using h2.1
    have hf := e.fuse hd
    refine ⟨rfl, e.now, rfl, ?_, fun _ => ?_⟩
    · simp only; rw [← e.down, hd]; simpa using h2
    · simp only [Dk.burn, Dk.rburn]; rw [hf]
theorem DkEq.crash {d v : Dk} (e : DkEq d v) (K : Nat) (torn at' : Int) : DkEq (d.crash K torn at') (v.crash K torn at') := by
  unfold Dk.crash; rw [e.lasts, e.loose]; exact ⟨rfl, rfl, rfl, fun _ => rfl⟩
theorem DkEq.setFuse {d v : Dk} (e : DkEq d v) (n : Int) : DkEq (d.setFuse n) (v.setFuse n) := ⟨e.lasts, e.loose, e.down, fun _ => rfl⟩
theorem DkEq.refl (d : Dk) : DkEq d d := ⟨rfl, rfl, rfl, fun _ => rfl⟩
theorem DkEq.scan {d v : Dk} (e : DkEq d v) (a en gen : Int) : d.scan a en gen = v.scan a en gen := by unfold Dk.scan; rw [e.now, e.lasts]
theorem DkEq.cleanLoop : ∀ (m i : Nat) (s : Bool) {d v : Dk}, DkEq d v → (cleanLoop m i s d).1 = (rcleanLoop m i s v).1 ∧ (cleanLoop m i s d).2.1 = (rcleanLoop m i s v).2.1 ∧ DkEq (cleanLoop m i s d).2.2 (rcleanLoop m i s v).2.2 := by
  intro m
  induction m with
  | zero => intro i s d v e; exact ⟨rfl, rfl, e⟩
  | succ m ih =>
    intro i s d v e
    have hn : ((d.now[i]?).getD []) = ((v.now[i]?).getD []) := by rw [e.now]
    obtain ⟨w1, w2⟩ := e.write i []
    cases hz : ((d.now[i]?).getD []).all (· == 0)
    · have hz' : ((v.now[i]?).getD []).all (· == 0) = false := by rw [← hn]; exact hz
      by_cases hw : (d.write i []).1 = 0
      · rw [cleanLoop_go hz hw, rcleanLoop_go hz' (by rw [← w1]; exact hw)]
        exact ih (i + 1) true w2
      · rw [cleanLoop_no hz hw, rcleanLoop_no hz' (by rw [← w1]; exact hw)]
        exact ⟨w1, rfl, w2⟩
    · have hz' : ((v.now[i]?).getD []).all (· == 0) = true := by rw [← hn]; exact hz
      rw [cleanLoop_blank hz, rcleanLoop_blank hz']
      exact ih (i + 1) s e
theorem DkEq.clean {d v : Dk} (e : DkEq d v) (a en : Int) : (d.clean a en).1 = (v.rclean a en).1 ∧ DkEq (d.clean a en).2 (v.rclean a en).2 := by
  have h := DkEq.cleanLoop (min en d.lasts.length - max a 0).toNat (max a 0).toNat false e
  unfold Dk.clean Dk.rclean
  rw [← e.lasts]
  generalize Go.Ax.cleanLoop (min en d.lasts.length - max a 0).toNat (max a 0).toNat false d = L at *
  generalize rcleanLoop (min en d.lasts.length - max a 0).toNat (max a 0).toNat false v = R at *
  obtain ⟨l1, l2, l3⟩ := L
  obtain ⟨r1, r2, r3⟩ := R
  simp only at h ⊢
  obtain ⟨rfl, rfl, h3⟩ := h
  by_cases z : l1 = 0
  · subst z
    simp only [ne_eq, not_true_eq_false, if_false]
    cases l2
    · exact ⟨rfl, h3⟩
    · simp only [if_true]; exact h3.flush
  · rw [if_pos z, if_pos z]
    exact ⟨rfl, h3⟩

/-! ### same -/
theorem same2_loop {S U : Obs} {p r p' r' : Nat} {d v : Dk} (e : DkEq d v) (hl : d.loose.length < 2 ^ 30) (N : Nat) (hN : d.loose.length + 80 < N) :
    ∀ (m i n : Nat) (h : Heap), i + m = d.lasts.length → m < n → Dsk S h p r d → Rsk U h p' r' v →
    ∃ h', (∀ K : Ex → List AV → Heap → Option (AV × Heap), loopK (fun next => runK C0 (exFn C0 E0 (N + 3)) false 30 (N + 3) B30_1 (seqE next K)) n (st 65 [(0, dp p), (1, rp p'), (5, .int .i64 i)]) h =
      K (.exit 0) (st 65 [(0, dp p), (1, rp p'), (5, .int .i64 d.lasts.length), (24, .bool false)]) h') ∧ Keep (From h.length) h h' := by
  intro m
  induction m with
  | zero =>
    intro i n h hi hn D R
    obtain ⟨x, vs, hx, -, -⟩ := R.var
    obtain ⟨n, rfl⟩ : ∃ j, n = j + 1 := ⟨n - 1, by omega⟩
    obtain rfl : i = d.lasts.length := by omega
    refine ⟨h, fun K => ?_, Keep.refl _ _⟩
    rw [loopK_succ]
    generalize loopK (_ : (List AV → Heap → Option (AV × Heap)) → List AV → Heap → Option (AV × Heap)) n = Lp
    have e1 : decide (((d.lasts.length : Nat) : Int) < (v.lasts.length : Nat)) = false := decide_eq_false (by rw [e.lasts]; omega)
    simp -implicitDefEqProofs only [B30_1, ↓runK_seq, runK_seq, ↓runK_cond, runK_cond, ↓runK_block, runK_block, ↓runK_loop, runK_loop, ↓runK_skip, runK_skip, ↓runK_ret, runK_ret, ↓runK_exit, runK_exit, ↓seqE_n, seqE_n, ↓seqE_e, seqE_e, ↓seqE_r, seqE_r, ↓blkE_n, blkE_n, ↓blkE_e, blkE_e, ↓blkE_r, blkE_r, ↓retK_n, retK_n, ↓retK_r, retK_r, ↓aCall_fn, aCall_fn, ↓bnd_s, bnd_s, ↓bnd2_s, bnd2_s, ↓onB_t, onB_t, ↓onB_f, onB_f, ↓onG_tt, onG_tt, ↓onG_tf, onG_tf, ↓onG_ft, onG_ft, ↓onG_ff, onG_ff, ↓onG_s, onG_s, ↓onT_t, onT_t, ↓aPick_t, aPick_t, ↓aPick_f, aPick_f, decide_true, decide_false, st_tmp, results1, results2, List.lookup_cons, List.lookup_nil, Nat.reduceBEq, Bool.false_eq_true, ↓reduceIte, BEq.rfl, Nat.reduceLT, Option.getD_some, Option.getD_none, ↓r30_0, r30_0, ↓r30_1, r30_1, ↓r30_2, r30_2, ↓r30_3, r30_3, ↓r30_4, r30_4, ↓r30_5, r30_5, ↓r30_6, r30_6, ↓r30_7, r30_7, ↓r30_8, r30_8, J30_8_0, J30_8_1, J30_8_2, J30_8_3, J30_8_4, J30_8_5, J30_8_6, ↓r30_9, r30_9, ↓r30_10, r30_10, rp_chk, rpf0, rld0 hx, lens, bin_lss, e1]
  | succ m ih =>
    intro i n h hi hn D R
    obtain ⟨n, rfl⟩ : ∃ j, n = j + 1 := ⟨n - 1, by omega⟩
    obtain ⟨x, vs, hx, -, -⟩ := R.var
    have hfew := D.few
    have hlt : i < d.lasts.length := by omega
    have e1 : decide (((i : Nat) : Int) < (v.lasts.length : Nat)) = true := decide_eq_true (by rw [← e.lasts]; omega)
    have wr : IntKind.i64.wrap ((i : Int) + 1) = ((i + 1 : Nat) : Int) := by rw [wrap_i64] <;> omega
    have up := Up.fresh h
    obtain ⟨b, h1, a1, a2, a3⟩ := read_ok D hl (i : Int) (N + 2) (by omega)
    have hrd : d.read (i : Int) = ((d.now[i]?).getD [], 0) := by
      unfold Dk.read
      rw [if_pos ⟨by omega, by omega⟩, Int.toNat_natCast]
    rw [hrd] at a1 a2
    obtain ⟨c, h2, b1, b2, b3⟩ := lasts_ok (D.fresh a3) (i : Int) N
    have hla : d.lastsAt (i : Int) = (d.lasts[i], 0) := by
      unfold Dk.lastsAt
      rw [if_pos ⟨by omega, by omega⟩, Int.toNat_natCast, List.getElem?_eq_getElem hlt]
      rfl
    rw [hla] at b1 b2
    have k12 := a3.fresh b3 up
    have R2 := R.fresh k12
    obtain ⟨x2, vs2, hx2, -, -⟩ := R2.var
    have hvl : i < v.lasts.length := by rw [← e.lasts]; exact hlt
    have hvv : v.lasts[i]? = some d.lasts[i] := by rw [← e.lasts]; exact List.getElem?_eq_getElem hlt
    have hne : v.lasts ≠ [] := by intro e; rw [e] at hvl; simp at hvl
    obtain ⟨us, hu, bu⟩ := R2.row hne
    obtain ⟨u, hu1, hu2⟩ := bu.get hvv
    obtain ⟨w, c1, c2⟩ := rread_ok R2 (by rw [← e.loose]; exact hl) (i : Int) false (N + 2) (by rw [← e.loose]; omega)
    have hrr : v.rread (i : Int) = (d.now[i]?).getD [] := by
      unfold Dk.rread
      rw [if_pos ⟨by omega, by omega⟩, Int.toNat_natCast, e.now]
    rw [hrr] at c2
    have bb : Bs b ((d.now[i]?).getD []) := a2.bs
    have hc : ((d.now[i]?).getD []).length = 64 := by
      have : i < d.now.length := by rw [D.now_length]; exact hlt
      rw [List.getElem?_eq_getElem this]; exact D.now_cells _ (List.getElem_mem this)
    have hc2 := D.cells _ (List.getElem_mem hlt)
    have s1 := same_ok bb c2 (by omega) false h2 (N + 3) (by omega)
    have bc : Bs c d.lasts[i] := b2.bs
    have s2 := same_ok bc hu2 (by omega) false h2 (N + 3) (by omega)
    rw [decide_eq_true rfl] at s1 s2
    obtain ⟨h3, g1, g2⟩ := ih (i + 1) n h2 (by omega) (by omega) (D.fresh k12) R2
    refine ⟨h3, fun K => ?_, k12.fresh g2 up⟩
    rw [loopK_succ, ← g1 K]
    generalize loopK (_ : (List AV → Heap → Option (AV × Heap)) → List AV → Heap → Option (AV × Heap)) n = Lp
    have c0 : decide ((0 : Int) ≠ 0) = false := by decide
    simp -implicitDefEqProofs only [B30_1, ↓runK_seq, runK_seq, ↓runK_cond, runK_cond, ↓runK_block, runK_block, ↓runK_loop, runK_loop, ↓runK_skip, runK_skip, ↓runK_ret, runK_ret, ↓runK_exit, runK_exit, ↓seqE_n, seqE_n, ↓seqE_e, seqE_e, ↓seqE_r, seqE_r, ↓blkE_n, blkE_n, ↓blkE_e, blkE_e, ↓blkE_r, blkE_r, ↓retK_n, retK_n, ↓retK_r, retK_r, ↓aCall_fn, aCall_fn, ↓bnd_s, bnd_s, ↓bnd2_s, bnd2_s, ↓onB_t, onB_t, ↓onB_f, onB_f, ↓onG_tt, onG_tt, ↓onG_tf, onG_tf, ↓onG_ft, onG_ft, ↓onG_ff, onG_ff, ↓onG_s, onG_s, ↓onT_t, onT_t, ↓aPick_t, aPick_t, ↓aPick_f, aPick_f, decide_true, decide_false, st_tmp, results1, results2, List.lookup_cons, List.lookup_nil, Nat.reduceBEq, Bool.false_eq_true, ↓reduceIte, BEq.rfl, Nat.reduceLT, Option.getD_some, Option.getD_none, ↓r30_0, r30_0, ↓r30_1, r30_1, ↓r30_2, r30_2, ↓r30_3, r30_3, ↓r30_4, r30_4, ↓r30_5, r30_5, ↓r30_6, r30_6, ↓r30_7, r30_7, ↓r30_8, r30_8, J30_8_0, J30_8_1, J30_8_2, J30_8_3, J30_8_4, J30_8_5, J30_8_6, ↓r30_9, r30_9, ↓r30_10, r30_10, rp_chk, rpf0, rld0 hx, lens, bin_lss, e1, a1, ext0, ext1, b1, neq27, c0, c1, s1, un_not, Bool.not_true, rld0 hx2, idxs r' _ i hvl, load_row hu hu1, s2, bin_add, wr]

theorem same2_ok {S U : Obs} {p r p' r' : Nat} {d v : Dk} {h : Heap} (e : DkEq d v) (hl : d.loose.length < 2 ^ 30) (D : Dsk S h p r d) (R : Rsk U h p' r' v) (k : Nat) (hk : d.loose.length + 1200 < k) :
    ∃ h', exFn C0 E0 (k + 1) false 30 [dp p, rp p'] h = some (.bool true, h') ∧ Keep (From h.length) h h' := by
  obtain ⟨k, rfl⟩ : ∃ j, k = j + 3 := ⟨k - 3, by omega⟩
  have hfew := D.few
  obtain ⟨x, vs, hx, -, -⟩ := R.var
  obtain ⟨h', g1, g2⟩ := same2_loop e hl k (by omega) d.lasts.length 0 (k + 3) h (by omega) (by omega) D R
  rw [show ((0 : Nat) : Int) = 0 from rfl] at g1
  refine ⟨h', exFn_of e30 ?_, g2⟩
  have e1 : decide (((d.lasts.length : Nat) : Int) ≠ (v.lasts.length : Nat)) = false := decide_eq_false (by rw [e.lasts]; omega)
  rw [fnK, show ([dp p, rp p'] ++ List.replicate (65 - [dp p, rp p'].length) AV.undef) = st 65 [(0, dp p), (1, rp p')] from rfl, s30]
  simp -implicitDefEqProofs only [↓runK_seq, runK_seq, ↓runK_cond, runK_cond, ↓runK_block, runK_block, ↓runK_loop, runK_loop, ↓runK_skip, runK_skip, ↓runK_ret, runK_ret, ↓runK_exit, runK_exit, ↓seqE_n, seqE_n, ↓seqE_e, seqE_e, ↓seqE_r, seqE_r, ↓blkE_n, blkE_n, ↓blkE_e, blkE_e, ↓blkE_r, blkE_r, ↓retK_n, retK_n, ↓retK_r, retK_r, ↓aCall_fn, aCall_fn, ↓bnd_s, bnd_s, ↓bnd2_s, bnd2_s, ↓onB_t, onB_t, ↓onB_f, onB_f, ↓onG_tt, onG_tt, ↓onG_tf, onG_tf, ↓onG_ft, onG_ft, ↓onG_ff, onG_ff, ↓onG_s, onG_s, ↓onT_t, onT_t, ↓aPick_t, aPick_t, ↓aPick_f, aPick_f, decide_true, decide_false, st_tmp, results1, results2, List.lookup_cons, List.lookup_nil, Nat.reduceBEq, Bool.false_eq_true, ↓reduceIte, BEq.rfl, Nat.reduceLT, Option.getD_some, Option.getD_none, ↓r30_0, r30_0, ↓r30_1, r30_1, ↓r30_2, r30_2, ↓r30_3, r30_3, ↓r30_4, r30_4, ↓r30_5, r30_5, ↓r30_6, r30_6, ↓r30_7, r30_7, ↓r30_8, r30_8, J30_8_0, J30_8_1, J30_8_2, J30_8_3, J30_8_4, J30_8_5, J30_8_6, ↓r30_9, r30_9, ↓r30_10, r30_10, len_ok D, rp_chk, rpf0, rld0 hx, lens, bin_neq, e1, rdSame_refl]
  rw [g1]
  simp -implicitDefEqProofs only [↓runK_seq, runK_seq, ↓runK_cond, runK_cond, ↓runK_block, runK_block, ↓runK_loop, runK_loop, ↓runK_skip, runK_skip, ↓runK_ret, runK_ret, ↓runK_exit, runK_exit, ↓seqE_n, seqE_n, ↓seqE_e, seqE_e, ↓seqE_r, seqE_r, ↓blkE_n, blkE_n, ↓blkE_e, blkE_e, ↓blkE_r, blkE_r, ↓retK_n, retK_n, ↓retK_r, retK_r, ↓aCall_fn, aCall_fn, ↓bnd_s, bnd_s, ↓bnd2_s, bnd2_s, ↓onB_t, onB_t, ↓onB_f, onB_f, ↓onG_tt, onG_tt, ↓onG_tf, onG_tf, ↓onG_ft, onG_ft, ↓onG_ff, onG_ff, ↓onG_s, onG_s, ↓onT_t, onT_t, ↓aPick_t, aPick_t, ↓aPick_f, aPick_f, decide_true, decide_false, st_tmp, results1, results2, List.lookup_cons, List.lookup_nil, Nat.reduceBEq, Bool.false_eq_true, ↓reduceIte, BEq.rfl, Nat.reduceLT, Option.getD_some, Option.getD_none, ↓r30_0, r30_0, ↓r30_1, r30_1, ↓r30_2, r30_2, ↓r30_3, r30_3, ↓r30_4, r30_4, ↓r30_5, r30_5, ↓r30_6, r30_6, ↓r30_7, r30_7, ↓r30_8, r30_8, J30_8_0, J30_8_1, J30_8_2, J30_8_3, J30_8_4, J30_8_5, J30_8_6, ↓r30_9, r30_9, ↓r30_10, r30_10]
end Go.Ax

/- Two disks beside one another: what happens to one leaves the other. -/
namespace Go.Ax
open Go Go.Proofs

theorem Dsk.cap {S : Obs} {h : Heap} {p r : Nat} {d : Dk} (D : Dsk S h p r d) : Dsk (fun i => S i ∧ i < h.length) h p r d := by
  obtain ⟨x, hx, ha⟩ := D.var
  refine ⟨⟨D.hp, (List.getElem?_eq_some_iff.1 hx).1⟩, fun e => ⟨D.hr e, (List.getElem?_eq_some_iff.1 (D.row e)).1⟩, ⟨x, hx, ?_⟩, D.row, D.cells, D.loose, D.few⟩
  rcases ha with a | ⟨kk, hx, a | ⟨r, g, hk, hr, hg⟩⟩
  · exact .inl a
  · exact .inr ⟨kk, hx, .inl a⟩
  · exact .inr ⟨kk, hx, .inr ⟨r, g, hk, ⟨hr, (List.getElem?_eq_some_iff.1 hg).1⟩, hg⟩⟩
theorem Rsk.cap {S : Obs} {h : Heap} {p r : Nat} {d : Dk} (D : Rsk S h p r d) : Rsk (fun i => S i ∧ i < h.length) h p r d := by
  obtain ⟨x, vs, hx, ha, hv⟩ := D.var
  refine ⟨⟨D.hp, (List.getElem?_eq_some_iff.1 hx).1⟩, fun e => ⟨D.hr e, by obtain ⟨us, hu, -⟩ := D.row e; exact (List.getElem?_eq_some_iff.1 hu).1⟩, ⟨x, vs, hx, ?_, hv⟩, D.row, D.cells, D.loose, D.few⟩
  rcases ha with a | ⟨kk, hx, a | ⟨r, g, hk, hr, hg⟩⟩
  · exact .inl a
  · exact .inr ⟨kk, hx, .inl a⟩
  · exact .inr ⟨kk, hx, .inr ⟨r, g, hk, ⟨hr, (List.getElem?_eq_some_iff.1 hg).1⟩, hg⟩⟩

/-- Both disks lie in memory, apart, from object b on; no object of F (which are there) is theirs. -/
def Two (b : Nat) (F : Obs) (h : Heap) (p r p' r' : Nat) (d v : Dk) : Prop :=
  b ≤ h.length ∧ (∀ i, F i → i < h.length) ∧ ∃ S1 S2 : Obs, Dsk S1 h p r d ∧ Rsk S2 h p' r' v ∧ (∀ i, S1 i → ¬ S2 i) ∧ (∀ i, S1 i → b ≤ i ∧ i < h.length ∧ ¬ F i) ∧ (∀ i, S2 i → b ≤ i ∧ i < h.length ∧ ¬ F i)

/-- What may change when something happens to one of them. -/
def Zone (b : Nat) (F : Obs) (_ : Heap) : Obs := fun i => b ≤ i ∧ ¬ F i

theorem Two.opD {b : Nat} {F : Obs} {h : Heap} {p r p' r' : Nat} {d v : Dk} (T : Two b F h p r p' r' d v) :
    ∃ S : Obs, Up S h ∧ Dsk S h p r d ∧ (∀ i, F i → ¬ S i) ∧ (∀ i, S i → Zone b F h i) ∧
      ∀ h' d', Dsk S h' p r d' → Keep S h h' → Two b F h' p r p' r' d' v ∧ Keep (Zone b F h) h h' := by
  obtain ⟨hb, hF, S1, S2, D, R, dis, b1, b2⟩ := T
  have hz : ∀ i, (S1 i ∨ h.length ≤ i) → Zone b F h i := fun i hi => by
    rcases hi with h3 | h3
    · have := b1 i h3; exact ⟨this.1, this.2.2⟩
    · exact ⟨by omega, fun hf => by have := hF i hf; omega⟩
  refine ⟨fun i => S1 i ∨ h.length ≤ i, fun i hi => .inr hi, D.mono fun i hi => .inl hi, fun i h1 h3 => ?_, hz, fun h' d' D' k => ⟨⟨by have := k.1; omega, fun i hi => by have := hF i hi; have := k.1; omega, _, S2, D'.cap, R.keep k fun i hi h2 h3 => ?_, fun i hi h2 => ?_, fun i hi => ?_, fun i hi => ?_⟩, k.mono hz⟩⟩
  · rcases h3 with h3 | h3
    · exact (b1 i h3).2.2 h1
    · have := hF i h1; omega
  · rcases h3 with h3 | h3
    · exact dis i h3 h2
    · omega
  · rcases hi.1 with h3 | h3
    · exact dis i h3 h2
    · have := (b2 i h2).2.1; omega
  · rcases hi.1 with h3 | h3
    · have := b1 i h3; exact ⟨this.1, hi.2, this.2.2⟩
    · exact ⟨by omega, hi.2, fun hf => by have := hF i hf; omega⟩
  · have := b2 i hi; have := k.1; exact ⟨by omega, by omega, (b2 i hi).2.2⟩

theorem Two.opR {b : Nat} {F : Obs} {h : Heap} {p r p' r' : Nat} {d v : Dk} (T : Two b F h p r p' r' d v) :
    ∃ S : Obs, Up S h ∧ Rsk S h p' r' v ∧ (∀ i, F i → ¬ S i) ∧ (∀ i, S i → Zone b F h i) ∧
      ∀ h' v', Rsk S h' p' r' v' → Keep S h h' → Two b F h' p r p' r' d v' ∧ Keep (Zone b F h) h h' := by
  obtain ⟨hb, hF, S1, S2, D, R, dis, b1, b2⟩ := T
  have hz : ∀ i, (S2 i ∨ h.length ≤ i) → Zone b F h i := fun i hi => by
    rcases hi with h3 | h3
    · have := b2 i h3; exact ⟨this.1, this.2.2⟩
    · exact ⟨by omega, fun hf => by have := hF i hf; omega⟩
  refine ⟨fun i => S2 i ∨ h.length ≤ i, fun i hi => .inr hi, R.mono fun i hi => .inl hi, fun i h1 h3 => ?_, hz, fun h' v' R' k => ⟨⟨by have := k.1; omega, fun i hi => by have := hF i hi; have := k.1; omega, S1, _, D.keep k fun i hi h2 h3 => ?_, R'.cap, fun i h2 hi => ?_, fun i hi => ?_, fun i hi => ?_⟩, k.mono hz⟩⟩
  · rcases h3 with h3 | h3
    · exact (b2 i h3).2.2 h1
    · have := hF i h1; omega
  · rcases h3 with h3 | h3
    · exact dis i h2 h3
    · omega
  · rcases hi.1 with h3 | h3
    · exact dis i h2 h3
    · have := (b1 i h2).2.1; omega
  · have := b1 i hi; have := k.1; exact ⟨by omega, by omega, (b1 i hi).2.2⟩
  · rcases hi.1 with h3 | h3
    · have := b2 i h3; exact ⟨this.1, hi.2, this.2.2⟩
    · exact ⟨by omega, hi.2, fun hf => by have := hF i hf; omega⟩

/-- Something else is made: it is not theirs. -/
theorem Two.alloc {b : Nat} {F : Obs} {h h' : Heap} {p r p' r' : Nat} {d v : Dk} (T : Two b F h p r p' r' d v) (k : Keep (From h.length) h h') : Two b (fun i => F i ∨ (h.length ≤ i ∧ i < h'.length)) h' p r p' r' d v := by
  obtain ⟨hb, hF, S1, S2, D, R, dis, b1, b2⟩ := T
  have hk := k.1
  refine ⟨by omega, fun i hi => ?_, S1, S2, D.fresh k, R.fresh k, dis, fun i hi => ?_, fun i hi => ?_⟩
  · rcases hi with hi | hi
    · have := hF i hi; omega
    · exact hi.2
  · have := b1 i hi; exact ⟨this.1, by omega, fun hf => by rcases hf with hf | hf; exact this.2.2 hf; omega⟩
  · have := b2 i hi; exact ⟨this.1, by omega, fun hf => by rcases hf with hf | hf; exact this.2.2 hf; omega⟩
/-- What is not theirs changes. -/
theorem Two.other {b : Nat} {F U : Obs} {h h' : Heap} {p r p' r' : Nat} {d v : Dk} (T : Two b F h p r p' r' d v) (k : Keep U h h') (hU : ∀ i, U i → F i) : Two b F h' p r p' r' d v := by
  obtain ⟨hb, hF, S1, S2, D, R, dis, b1, b2⟩ := T
  have hk := k.1
  exact ⟨by omega, fun i hi => by have := hF i hi; omega, S1, S2, D.keep k fun i _ h1 h2 => (b1 i h1).2.2 (hU i h2), R.keep k fun i _ h1 h2 => (b2 i h1).2.2 (hU i h2), dis,
    fun i hi => ⟨(b1 i hi).1, by have := (b1 i hi).2.1; omega, (b1 i hi).2.2⟩, fun i hi => ⟨(b2 i hi).1, by have := (b2 i hi).2.1; omega, (b2 i hi).2.2⟩⟩
theorem Two.forget {b : Nat} {F G : Obs} {h : Heap} {p r p' r' : Nat} {d v : Dk} (T : Two b F h p r p' r' d v) (hG : ∀ i, G i → F i) : Two b G h p r p' r' d v := by
  obtain ⟨hb, hF, S1, S2, D, R, dis, b1, b2⟩ := T
  exact ⟨hb, fun i hi => hF i (hG i hi), S1, S2, D, R, dis, fun i hi => ⟨(b1 i hi).1, (b1 i hi).2.1, fun h => (b1 i hi).2.2 (hG i h)⟩, fun i hi => ⟨(b2 i hi).1, (b2 i hi).2.1, fun h => (b2 i hi).2.2 (hG i h)⟩⟩
theorem Two.dsk {b : Nat} {F : Obs} {h : Heap} {p r p' r' : Nat} {d v : Dk} (T : Two b F h p r p' r' d v) : ∃ S, Dsk S h p r d := by
  obtain ⟨-, -, S1, S2, D, -⟩ := T; exact ⟨S1, D⟩
theorem Two.rsk {b : Nat} {F : Obs} {h : Heap} {p r p' r' : Nat} {d v : Dk} (T : Two b F h p r p' r' d v) : ∃ S, Rsk S h p' r' v := by
  obtain ⟨-, -, S1, S2, -, R, -⟩ := T; exact ⟨S2, R⟩
theorem Zone.sub {b : Nat} {F : Obs} {h : Heap} : ∀ i, Zone b F h i → From b i := fun _ hi => hi.1

/-- The start: both are made new. -/
theorem two_new {h h1 h2 : Heap} {p r p' r' : Nat} {d v : Dk} (D : Dsk (From h.length) h1 p r d) (R : Rsk (From h1.length) h2 p' r' v) (k1 : h.length ≤ h1.length) (k2 : Keep (From h1.length) h1 h2) : Two h.length (fun _ => False) h2 p r p' r' d v := by
  have hk := k2.1
  refine ⟨by omega, fun i hi => hi.elim, (fun i => From h.length i ∧ i < h1.length), (fun i => From h1.length i ∧ i < h2.length), D.cap.keep k2 fun i hi h1 h2 => ?_, R.cap, fun i h1 h2 => ?_, fun i hi => ?_, fun i hi => ?_⟩
  · unfold From at h2; omega
  · have := h1.2; have := h2.1; unfold From at this; omega
  · have := hi.1; unfold From at this; have := hi.2; exact ⟨by omega, by omega, fun h => h⟩
  · have := hi.1; unfold From at this; have := hi.2; exact ⟨by omega, by omega, fun h => h⟩
end Go.Ax

/- What the regions of some functions hand on. Printed by a program of mine (gen.py). -/
set_option linter.unusedVariables false
namespace Go.Ax
open Go Go.Proofs
/-! ### interregnum/interregnumlaw03.both -/
noncomputable def O27 (i : Nat) : Array Oper := opsOf i (bodyOf Try.f27)
noncomputable def B27_1 : Code := (.seq (.seq (.region 23 (O27 23) false) (.cond (Go.Operand.tmp 100) .skip (.exit 3))) (.seq (.block 4 (.region 25 (O27 25) false)) (.region 24 (O27 24) false)))
noncomputable def B27_2 : Code := (.seq (.seq (.region 3 (O27 3) false) (.cond (Go.Operand.tmp 26) .skip (.exit 0))) (.seq (.block 1 (.seq (.region 5 (O27 5) false) (.seq (.seq (.region 6 (O27 6) false) (.cond (Go.Operand.tmp 36) (.exit 1) .skip)) (.seq (.region 7 (O27 7) false) (.seq (.region 8 (O27 8) false) (.seq (.seq (.region 9 (O27 9) false) (.block 2 (.seq (.region 10 (O27 10) false) (.cond (Go.Operand.tmp 43) (.region 11 (O27 11) true) (.seq (.region 12 (O27 12) false) (.cond (Go.Operand.tmp 56) (.region 13 (O27 13) false) (.seq (.region 14 (O27 14) false) (.cond (Go.Operand.tmp 62) (.seq (.region 15 (O27 15) false) (.region 16 (O27 16) false)) (.seq (.region 17 (O27 17) false) (.cond (Go.Operand.tmp 80) (.seq (.region 18 (O27 18) false) (.seq (.region 19 (O27 19) false) (.seq (.region 20 (O27 20) false) (.cond (Go.Operand.tmp 93) (.region 21 (O27 21) false) .skip)))) .skip)))))))))) (.seq (.seq (.region 22 (O27 22) false) (.block 3 (.loop B27_1))) (.seq (.region 26 (O27 26) true) (.cond (Go.Operand.tmp 121) (.seq (.region 27 (O27 27) false) .ret) .skip))))))))) (.region 4 (O27 4) false)))
theorem s27 : bodyOf Try.f27 = (.seq (.region 0 (O27 0) false) (.seq (.region 1 (O27 1) false) (.seq (.seq (.region 2 (O27 2) false) (.block 0 (.loop B27_2))) (.seq (.region 28 (O27 28) false) .ret)))) := by kernel_rfl
theorem e27 : E0 27 = some ⟨126, [4, 5, 6], bodyOf Try.f27⟩ := by kernel_rfl
theorem r27_0 {β : Type} (call : CallF) (md : Bool) (n : Nat) (k : Ex → List AV → Heap → Option β) (x0 x1 : AV) (h : Heap) :
    runK C0 call md 27 n (.region 0 (O27 0) false) k (st 126 [(0, x0), (1, x1)]) h =
    k .normal (st 126 [(0, x0), (1, x1)]) h
  := by kernel_rfl
theorem r27_1 {β : Type} (call : CallF) (md : Bool) (n : Nat) (k : Ex → List AV → Heap → Option β) (x0 x1 : AV) (h : Heap) :
    runK C0 call md 27 n (.region 1 (O27 1) false) k (st 126 [(0, x0), (1, x1)]) h =
    bnd2 (aCall call md (.fn (.func 13) []) [x0] h) fun v1 h2 =>
    bnd2 (aCall call md (.fn (.func 39) []) [x0] h2) fun v3 h4 =>
    k .normal (st 126 [(1, x1), (7, v1), (8, v3)]) h4
  := by kernel_rfl
theorem r27_2 {β : Type} (call : CallF) (md : Bool) (n : Nat) (k : Ex → List AV → Heap → Option β) (x1 x7 x8 : AV) (h : Heap) :
    runK C0 call md 27 n (.region 2 (O27 2) false) k (st 126 [(1, x1), (7, x7), (8, x8)]) h =
    k .normal (st 126 [(1, x1), (7, x7), (8, x8), (9, (.int .i64 0))]) h
  := by kernel_rfl
def J27_3_2 {β : Type} (call : CallF) (md : Bool) (k : Ex → List AV → Heap → Option β) (x1 x7 x8 x9 x23 x25 : AV) (h : Heap) : Option β :=
    bnd (aPick x23 x25 (.bool false)) fun v1 =>
    k .normal (st 126 [(1, x1), (7, x7), (8, x8), (9, x9), (26, v1)]) h

theorem j27_3_2 {β : Type} (call : CallF) (md : Bool) (k : Ex → List AV → Heap → Option β) (x1 x7 x8 x9 x19 x20 x21 x22 x23 x24 x25 : AV) (h : Heap) :
    opsK C0 call md 27 (O27 3) ((O27 3).toList.drop 7) (st 126 [(1, x1), (7, x7), (8, x8), (9, x9), (19, x19), (20, x20), (21, x21), (22, x22), (23, x23), (24, x24), (25, x25)]) h (fun tm h => k .normal (clr (C0.keep 27 3) tm) h) = J27_3_2 call md k x1 x7 x8 x9 x23 x25 h := by kernel_rfl
def J27_3_1 {β : Type} (call : CallF) (md : Bool) (k : Ex → List AV → Heap → Option β) (x1 x7 x8 x9 x23 : AV) (h : Heap) : Option β :=
    onG true x23 (
      bnd (aBinC tab .lss 3 x9 (.int .i64 60) true) fun v3 =>
      J27_3_2 call md k x1 x7 x8 x9 x23 v3 h) (
      J27_3_2 call md k x1 x7 x8 x9 x23 .skip h)

theorem g27_3_1 {β : Type} (call : CallF) (md : Bool) (kk : List AV → Heap → Option β) (x1 x7 x8 x9 x19 x20 x21 x22 x23 : AV) (h : Heap) :
    opsK C0 call md 27 (O27 3) (((O27 3).toList.drop 5).take 2) (st 126 [(1, x1), (7, x7), (8, x8), (9, x9), (19, x19), (20, x20), (21, x21), (22, x22), (23, x23)]) h kk =
    onG true x23 (
      bnd (aBinC tab .lss 3 x9 (.int .i64 60) true) fun v4 =>
      kk (st 126 [(1, x1), (7, x7), (8, x8), (9, x9), (19, x19), (20, x20), (21, x21), (22, x22), (23, x23), (24, x9), (25, v4)]) h) (
      kk (st 126 [(1, x1), (7, x7), (8, x8), (9, x9), (19, x19), (20, x20), (21, x21), (22, x22), (23, x23), (24, .skip), (25, .skip)]) h)
  := by cases x23 with | bool b => (cases b <;> kernel_rfl) | _ => kernel_rfl
theorem j27_3_1 {β : Type} (call : CallF) (md : Bool) (k : Ex → List AV → Heap → Option β) (x1 x7 x8 x9 x19 x20 x21 x22 x23 : AV) (h : Heap) :
    opsK C0 call md 27 (O27 3) ((O27 3).toList.drop 5) (st 126 [(1, x1), (7, x7), (8, x8), (9, x9), (19, x19), (20, x20), (21, x21), (22, x22), (23, x23)]) h (fun tm h => k .normal (clr (C0.keep 27 3) tm) h) = J27_3_1 call md k x1 x7 x8 x9 x23 h := by
  have e : ((O27 3).toList.drop 5) = ((O27 3).toList.drop 5).take 2 ++ (O27 3).toList.drop 7 := by kernel_rfl
  rw [show opsK C0 call md 27 (O27 3) ((O27 3).toList.drop 5) = opsK C0 call md 27 (O27 3) (((O27 3).toList.drop 5).take 2 ++ (O27 3).toList.drop 7) from congrArg _ e]
  rw [opsK_append, g27_3_1]
  simp only [j27_3_2]
  rfl
def J27_3_0 {β : Type} (call : CallF) (md : Bool) (k : Ex → List AV → Heap → Option β) (x1 x7 x8 x9 : AV) (h : Heap) : Option β :=
    bnd (aLen tab 48 x1) fun v5 =>
    bnd (aBinC tab .lss 3 x9 v5 false) fun v6 =>
    J27_3_1 call md k x1 x7 x8 x9 v6 h

theorem g27_3_0 {β : Type} (call : CallF) (md : Bool) (kk : List AV → Heap → Option β) (x1 x7 x8 x9 : AV) (h : Heap) :
    opsK C0 call md 27 (O27 3) ((O27 3).toList.take 5) (st 126 [(1, x1), (7, x7), (8, x8), (9, x9)]) h kk =
    bnd (aLen tab 48 x1) fun v7 =>
    bnd (aBinC tab .lss 3 x9 v7 false) fun v8 =>
    kk (st 126 [(1, x1), (7, x7), (8, x8), (9, x9), (19, x9), (20, x1), (21, v7), (22, v8), (23, v8)]) h
  := by kernel_rfl
theorem j27_3_0 {β : Type} (call : CallF) (md : Bool) (k : Ex → List AV → Heap → Option β) (x1 x7 x8 x9 : AV) (h : Heap) :
    opsK C0 call md 27 (O27 3) (O27 3).toList (st 126 [(1, x1), (7, x7), (8, x8), (9, x9)]) h (fun tm h => k .normal (clr (C0.keep 27 3) tm) h) = J27_3_0 call md k x1 x7 x8 x9 h := by
  have e : (O27 3).toList = (O27 3).toList.take 5 ++ (O27 3).toList.drop 5 := by kernel_rfl
  rw [show opsK C0 call md 27 (O27 3) (O27 3).toList = opsK C0 call md 27 (O27 3) ((O27 3).toList.take 5 ++ (O27 3).toList.drop 5) from congrArg _ e]
  rw [opsK_append, g27_3_0]
  simp only [j27_3_1]
  rfl
theorem r27_3 {β : Type} (call : CallF) (md : Bool) (n : Nat) (k : Ex → List AV → Heap → Option β) (x1 x7 x8 x9 : AV) (h : Heap) :
    runK C0 call md 27 n (.region 3 (O27 3) false) k (st 126 [(1, x1), (7, x7), (8, x8), (9, x9)]) h = J27_3_0 call md k x1 x7 x8 x9 h := (runK_region C0 call md 27 n 3 (O27 3) k (st 126 [(1, x1), (7, x7), (8, x8), (9, x9)]) h).trans (j27_3_0 call md k x1 x7 x8 x9 h)
theorem r27_4a {β : Type} (call : CallF) (md : Bool) (n : Nat) (k : Ex → List AV → Heap → Option β) (x1 x7 x8 x9 x10 x36 : AV) (h : Heap) :
    runK C0 call md 27 n (.region 4 (O27 4) false) k (st 126 [(1, x1), (7, x7), (8, x8), (9, x9), (10, x10), (36, x36)]) h =
    bnd (aBinC tab .add 3 x9 (.int .i64 1) true) fun v1 =>
    k .normal (st 126 [(1, x1), (7, x7), (8, x8), (9, v1)]) h
  := by kernel_rfl
theorem r27_4b {β : Type} (call : CallF) (md : Bool) (n : Nat) (k : Ex → List AV → Heap → Option β) (x1 x7 x8 x9 x121 : AV) (h : Heap) :
    runK C0 call md 27 n (.region 4 (O27 4) false) k (st 126 [(1, x1), (7, x7), (8, x8), (9, x9), (121, x121)]) h =
    bnd (aBinC tab .add 3 x9 (.int .i64 1) true) fun v1 =>
    k .normal (st 126 [(1, x1), (7, x7), (8, x8), (9, v1)]) h
  := by kernel_rfl
theorem r27_5 {β : Type} (call : CallF) (md : Bool) (n : Nat) (k : Ex → List AV → Heap → Option β) (x1 x7 x8 x9 x26 : AV) (h : Heap) :
    runK C0 call md 27 n (.region 5 (O27 5) false) k (st 126 [(1, x1), (7, x7), (8, x8), (9, x9), (26, x26)]) h =
    bnd (aIndexAddr tab 48 x1 x9) fun v1 =>
    bnd (aLoad tab 96 v1 h) fun v2 =>
    bnd2 (aAlloc tab 96 h) fun v3 h4 =>
    bnd (aStore tab 96 v3 v2 h4) fun h5 =>
    k .normal (st 126 [(1, x1), (7, x7), (8, x8), (9, x9), (10, v3)]) h5
  := by kernel_rfl
theorem r27_6 {β : Type} (call : CallF) (md : Bool) (n : Nat) (k : Ex → List AV → Heap → Option β) (x1 x7 x8 x9 x10 : AV) (h : Heap) :
    runK C0 call md 27 n (.region 6 (O27 6) false) k (st 126 [(1, x1), (7, x7), (8, x8), (9, x9), (10, x10)]) h =
    bnd (aFieldAddr tab 96 x10 3) fun v1 =>
    bnd (aLoad tab 22 v1 h) fun v2 =>
    bnd (aLen tab 22 v2) fun v3 =>
    bnd (aBinC tab .gtr 3 v3 (.int .i64 200) true) fun v4 =>
    k .normal (st 126 [(1, x1), (7, x7), (8, x8), (9, x9), (10, x10), (36, v4)]) h
  := by kernel_rfl
theorem r27_7 {β : Type} (call : CallF) (md : Bool) (n : Nat) (k : Ex → List AV → Heap → Option β) (x1 x7 x8 x9 x10 x36 : AV) (h : Heap) :
    runK C0 call md 27 n (.region 7 (O27 7) false) k (st 126 [(1, x1), (7, x7), (8, x8), (9, x9), (10, x10), (36, x36)]) h =
    k .normal (st 126 [(1, x1), (7, x7), (8, x8), (9, x9), (10, x10), (11, (.int .i64 0)), (12, (.int .i64 0))]) h
  := by kernel_rfl
theorem r27_8 {β : Type} (call : CallF) (md : Bool) (n : Nat) (k : Ex → List AV → Heap → Option β) (x1 x7 x8 x9 x10 x11 x12 : AV) (h : Heap) :
    runK C0 call md 27 n (.region 8 (O27 8) false) k (st 126 [(1, x1), (7, x7), (8, x8), (9, x9), (10, x10), (11, x11), (12, x12)]) h =
    bnd (aLit tab 22 0 []) fun v1 =>
    bnd (aFieldAddr tab 96 x10 3) fun v2 =>
    bnd (aLoad tab 22 v2 h) fun v3 =>
    bnd2 (aApp tab 22 22 true v1 v3 h) fun v4 h5 =>
    k .normal (st 126 [(1, x1), (7, x7), (8, x8), (9, x9), (10, x10), (11, x11), (12, x12), (13, v4)]) h5
  := by kernel_rfl
theorem r27_9 {β : Type} (call : CallF) (md : Bool) (n : Nat) (k : Ex → List AV → Heap → Option β) (x1 x7 x8 x9 x10 x11 x12 x13 : AV) (h : Heap) :
    runK C0 call md 27 n (.region 9 (O27 9) false) k (st 126 [(1, x1), (7, x7), (8, x8), (9, x9), (10, x10), (11, x11), (12, x12), (13, x13)]) h =
    bnd (aFieldAddr tab 96 x10 0) fun v1 =>
    bnd (aLoad tab 3 v1 h) fun v2 =>
    k .normal (st 126 [(1, x1), (7, x7), (8, x8), (9, x9), (10, x10), (11, x11), (12, x12), (13, x13), (42, v2)]) h
  := by kernel_rfl
theorem r27_10 {β : Type} (call : CallF) (md : Bool) (n : Nat) (k : Ex → List AV → Heap → Option β) (x1 x7 x8 x9 x10 x11 x12 x13 x42 : AV) (h : Heap) :
    runK C0 call md 27 n (.region 10 (O27 10) false) k (st 126 [(1, x1), (7, x7), (8, x8), (9, x9), (10, x10), (11, x11), (12, x12), (13, x13), (42, x42)]) h =
    bnd (aBinC tab .eql 3 x42 (.int .i64 0) true) fun v1 =>
    k .normal (st 126 [(1, x1), (7, x7), (8, x8), (9, x9), (10, x10), (11, x11), (12, x12), (13, x13), (42, x42), (43, v1)]) h
  := by kernel_rfl
theorem r27_11 {β : Type} (call : CallF) (md : Bool) (n : Nat) (k : Ex → List AV → Heap → Option β) (x1 x7 x8 x9 x10 x11 x12 x13 x42 x43 : AV) (h : Heap) :
    runK C0 call md 27 n (.region 11 (O27 11) true) k (st 126 [(1, x1), (7, x7), (8, x8), (9, x9), (10, x10), (11, x11), (12, x12), (13, x13), (42, x42), (43, x43)]) h =
    bnd (aFieldAddr tab 96 x10 1) fun v1 =>
    bnd (aLoad tab 3 v1 h) fun v2 =>
    bnd2 (aCall call md (.fn (.func 17) []) [x7, v2, x13] h) fun v3 h4 =>
    bnd (aFieldAddr tab 96 x10 1) fun v5 =>
    bnd (aLoad tab 3 v5 h4) fun v6 =>
    bnd (aFieldAddr tab 96 x10 3) fun v7 =>
    bnd (aLoad tab 22 v7 h4) fun v8 =>
    bnd2 (aCall call md (.fn (.func 54) []) [x8, v6, v8] h4) fun v9 h10 =>
    onT (rdSame (aLoad tab 3 v5 h) v6) <|
      onT (rdSame (aLoad tab 22 v7 h) v8) <|
      k .normal (st 126 [(1, x1), (7, x7), (8, x8), (9, x9), (11, v3), (12, v9), (13, x13)]) h10
  := by kernel_rfl
theorem r27_12 {β : Type} (call : CallF) (md : Bool) (n : Nat) (k : Ex → List AV → Heap → Option β) (x1 x7 x8 x9 x10 x11 x12 x13 x42 x43 : AV) (h : Heap) :
    runK C0 call md 27 n (.region 12 (O27 12) false) k (st 126 [(1, x1), (7, x7), (8, x8), (9, x9), (10, x10), (11, x11), (12, x12), (13, x13), (42, x42), (43, x43)]) h =
    bnd (aBinC tab .eql 3 x42 (.int .i64 1) true) fun v1 =>
    k .normal (st 126 [(1, x1), (7, x7), (8, x8), (9, x9), (10, x10), (11, x11), (12, x12), (13, x13), (42, x42), (56, v1)]) h
  := by kernel_rfl
theorem r27_13 {β : Type} (call : CallF) (md : Bool) (n : Nat) (k : Ex → List AV → Heap → Option β) (x1 x7 x8 x9 x10 x11 x12 x13 x42 x56 : AV) (h : Heap) :
    runK C0 call md 27 n (.region 13 (O27 13) false) k (st 126 [(1, x1), (7, x7), (8, x8), (9, x9), (10, x10), (11, x11), (12, x12), (13, x13), (42, x42), (56, x56)]) h =
    bnd2 (aCall call md (.fn (.func 18) []) [x7] h) fun v1 h2 =>
    bnd2 (aCall call md (.fn (.func 55) []) [x8] h2) fun v3 h4 =>
    k .normal (st 126 [(1, x1), (7, x7), (8, x8), (9, x9), (11, v1), (12, v3), (13, x13)]) h4
  := by kernel_rfl
theorem r27_14 {β : Type} (call : CallF) (md : Bool) (n : Nat) (k : Ex → List AV → Heap → Option β) (x1 x7 x8 x9 x10 x11 x12 x13 x42 x56 : AV) (h : Heap) :
    runK C0 call md 27 n (.region 14 (O27 14) false) k (st 126 [(1, x1), (7, x7), (8, x8), (9, x9), (10, x10), (11, x11), (12, x12), (13, x13), (42, x42), (56, x56)]) h =
    bnd (aBinC tab .eql 3 x42 (.int .i64 2) true) fun v1 =>
    k .normal (st 126 [(1, x1), (7, x7), (8, x8), (9, x9), (10, x10), (11, x11), (12, x12), (13, x13), (42, x42), (62, v1)]) h
  := by kernel_rfl
theorem r27_15 {β : Type} (call : CallF) (md : Bool) (n : Nat) (k : Ex → List AV → Heap → Option β) (x1 x7 x8 x9 x10 x11 x12 x13 x42 x62 : AV) (h : Heap) :
    runK C0 call md 27 n (.region 15 (O27 15) false) k (st 126 [(1, x1), (7, x7), (8, x8), (9, x9), (10, x10), (11, x11), (12, x12), (13, x13), (42, x42), (62, x62)]) h =
    bnd (aFieldAddr tab 96 x10 4) fun v1 =>
    bnd (aLoad tab 44 v1 h) fun v2 =>
    bnd (aFieldAddr tab 96 x10 2) fun v3 =>
    bnd (aLoad tab 3 v3 h) fun v4 =>
    bnd (aFieldAddr tab 96 x10 1) fun v5 =>
    bnd (aLoad tab 3 v5 h) fun v6 =>
    bnd2 (aCall call md (.fn (.func 25) []) [x7, v2, v4, v6] h) fun v7 h8 =>
    k .normal (st 126 [(1, x1), (7, x7), (8, x8), (9, x9), (10, x10), (11, x11), (12, x12), (13, x13)]) h8
  := by kernel_rfl
theorem r27_16 {β : Type} (call : CallF) (md : Bool) (n : Nat) (k : Ex → List AV → Heap → Option β) (x1 x7 x8 x9 x10 x11 x12 x13 : AV) (h : Heap) :
    runK C0 call md 27 n (.region 16 (O27 16) false) k (st 126 [(1, x1), (7, x7), (8, x8), (9, x9), (10, x10), (11, x11), (12, x12), (13, x13)]) h =
    bnd (aFieldAddr tab 96 x10 4) fun v1 =>
    bnd (aLoad tab 44 v1 h) fun v2 =>
    bnd (aFieldAddr tab 96 x10 2) fun v3 =>
    bnd (aLoad tab 3 v3 h) fun v4 =>
    bnd (aFieldAddr tab 96 x10 1) fun v5 =>
    bnd (aLoad tab 3 v5 h) fun v6 =>
    bnd2 (aCall call md (.fn (.func 43) []) [x8, v2, v4, v6] h) fun v7 h8 =>
    k .normal (st 126 [(1, x1), (7, x7), (8, x8), (9, x9), (11, x11), (12, x12), (13, x13)]) h8
  := by kernel_rfl
theorem r27_17 {β : Type} (call : CallF) (md : Bool) (n : Nat) (k : Ex → List AV → Heap → Option β) (x1 x7 x8 x9 x10 x11 x12 x13 x42 x62 : AV) (h : Heap) :
    runK C0 call md 27 n (.region 17 (O27 17) false) k (st 126 [(1, x1), (7, x7), (8, x8), (9, x9), (10, x10), (11, x11), (12, x12), (13, x13), (42, x42), (62, x62)]) h =
    bnd (aBinC tab .eql 3 x42 (.int .i64 3) true) fun v1 =>
    k .normal (st 126 [(1, x1), (7, x7), (8, x8), (9, x9), (10, x10), (11, x11), (12, x12), (13, x13), (80, v1)]) h
  := by kernel_rfl
theorem r27_18 {β : Type} (call : CallF) (md : Bool) (n : Nat) (k : Ex → List AV → Heap → Option β) (x1 x7 x8 x9 x10 x11 x12 x13 x80 : AV) (h : Heap) :
    runK C0 call md 27 n (.region 18 (O27 18) false) k (st 126 [(1, x1), (7, x7), (8, x8), (9, x9), (10, x10), (11, x11), (12, x12), (13, x13), (80, x80)]) h =
    bnd (aFieldAddr tab 96 x10 2) fun v1 =>
    bnd (aLoad tab 3 v1 h) fun v2 =>
    bnd2 (aCall call md (.fn (.func 24) []) [x7, v2] h) fun v3 h4 =>
    k .normal (st 126 [(1, x1), (7, x7), (8, x8), (9, x9), (10, x10), (11, x11), (12, x12), (13, x13)]) h4
  := by kernel_rfl
theorem r27_19 {β : Type} (call : CallF) (md : Bool) (n : Nat) (k : Ex → List AV → Heap → Option β) (x1 x7 x8 x9 x10 x11 x12 x13 : AV) (h : Heap) :
    runK C0 call md 27 n (.region 19 (O27 19) false) k (st 126 [(1, x1), (7, x7), (8, x8), (9, x9), (10, x10), (11, x11), (12, x12), (13, x13)]) h =
    bnd (aFieldAddr tab 96 x10 2) fun v1 =>
    bnd (aLoad tab 3 v1 h) fun v2 =>
    bnd (aNil x8) fun v3 =>
    bnd (aFieldAddr tab 74 v3 2) fun v4 =>
    bnd (aStore tab 3 v4 v2 h) fun h5 =>
    k .normal (st 126 [(1, x1), (7, x7), (8, x8), (9, x9), (10, x10), (11, x11), (12, x12), (13, x13)]) h5
  := by kernel_rfl
theorem r27_20 {β : Type} (call : CallF) (md : Bool) (n : Nat) (k : Ex → List AV → Heap → Option β) (x1 x7 x8 x9 x10 x11 x12 x13 : AV) (h : Heap) :
    runK C0 call md 27 n (.region 20 (O27 20) false) k (st 126 [(1, x1), (7, x7), (8, x8), (9, x9), (10, x10), (11, x11), (12, x12), (13, x13)]) h =
    bnd (aFieldAddr tab 96 x10 2) fun v1 =>
    bnd (aLoad tab 3 v1 h) fun v2 =>
    bnd (aBinC tab .lss 3 v2 (.int .i64 0) true) fun v3 =>
    k .normal (st 126 [(1, x1), (7, x7), (8, x8), (9, x9), (11, x11), (12, x12), (13, x13), (93, v3)]) h
  := by kernel_rfl
theorem r27_21 {β : Type} (call : CallF) (md : Bool) (n : Nat) (k : Ex → List AV → Heap → Option β) (x1 x7 x8 x9 x11 x12 x13 x93 : AV) (h : Heap) :
    runK C0 call md 27 n (.region 21 (O27 21) false) k (st 126 [(1, x1), (7, x7), (8, x8), (9, x9), (11, x11), (12, x12), (13, x13), (93, x93)]) h =
    bnd (aNil x8) fun v1 =>
    bnd (aFieldAddr tab 74 v1 2) fun v2 =>
    bnd (aStore tab 3 v2 (.int .i64 0) h) fun h3 =>
    k .normal (st 126 [(1, x1), (7, x7), (8, x8), (9, x9), (11, x11), (12, x12), (13, x13)]) h3
  := by kernel_rfl
theorem r27_22a {β : Type} (call : CallF) (md : Bool) (n : Nat) (k : Ex → List AV → Heap → Option β) (x1 x7 x8 x9 x10 x11 x12 x13 x80 : AV) (h : Heap) :
    runK C0 call md 27 n (.region 22 (O27 22) false) k (st 126 [(1, x1), (7, x7), (8, x8), (9, x9), (10, x10), (11, x11), (12, x12), (13, x13), (80, x80)]) h =
    k .normal (st 126 [(1, x1), (7, x7), (8, x8), (9, x9), (11, x11), (12, x12), (13, x13), (14, (.int .i64 0))]) h
  := by kernel_rfl
theorem r27_22b {β : Type} (call : CallF) (md : Bool) (n : Nat) (k : Ex → List AV → Heap → Option β) (x1 x7 x8 x9 x11 x12 x13 x93 : AV) (h : Heap) :
    runK C0 call md 27 n (.region 22 (O27 22) false) k (st 126 [(1, x1), (7, x7), (8, x8), (9, x9), (11, x11), (12, x12), (13, x13), (93, x93)]) h =
    k .normal (st 126 [(1, x1), (7, x7), (8, x8), (9, x9), (11, x11), (12, x12), (13, x13), (14, (.int .i64 0))]) h
  := by kernel_rfl
theorem r27_22c {β : Type} (call : CallF) (md : Bool) (n : Nat) (k : Ex → List AV → Heap → Option β) (x1 x7 x8 x9 x11 x12 x13 : AV) (h : Heap) :
    runK C0 call md 27 n (.region 22 (O27 22) false) k (st 126 [(1, x1), (7, x7), (8, x8), (9, x9), (11, x11), (12, x12), (13, x13)]) h =
    k .normal (st 126 [(1, x1), (7, x7), (8, x8), (9, x9), (11, x11), (12, x12), (13, x13), (14, (.int .i64 0))]) h
  := by kernel_rfl
theorem r27_23 {β : Type} (call : CallF) (md : Bool) (n : Nat) (k : Ex → List AV → Heap → Option β) (x1 x7 x8 x9 x11 x12 x13 x14 : AV) (h : Heap) :
    runK C0 call md 27 n (.region 23 (O27 23) false) k (st 126 [(1, x1), (7, x7), (8, x8), (9, x9), (11, x11), (12, x12), (13, x13), (14, x14)]) h =
    bnd (aLen tab 22 x13) fun v1 =>
    bnd (aBinC tab .lss 3 x14 v1 false) fun v2 =>
    k .normal (st 126 [(1, x1), (7, x7), (8, x8), (9, x9), (11, x11), (12, x12), (13, x13), (14, x14), (100, v2)]) h
  := by kernel_rfl
theorem r27_24 {β : Type} (call : CallF) (md : Bool) (n : Nat) (k : Ex → List AV → Heap → Option β) (x1 x7 x8 x9 x11 x12 x13 x14 : AV) (h : Heap) :
    runK C0 call md 27 n (.region 24 (O27 24) false) k (st 126 [(1, x1), (7, x7), (8, x8), (9, x9), (11, x11), (12, x12), (13, x13), (14, x14)]) h =
    bnd (aBinC tab .add 3 x14 (.int .i64 1) true) fun v1 =>
    k .normal (st 126 [(1, x1), (7, x7), (8, x8), (9, x9), (11, x11), (12, x12), (13, x13), (14, v1)]) h
  := by kernel_rfl
theorem r27_25 {β : Type} (call : CallF) (md : Bool) (n : Nat) (k : Ex → List AV → Heap → Option β) (x1 x7 x8 x9 x11 x12 x13 x14 x100 : AV) (h : Heap) :
    runK C0 call md 27 n (.region 25 (O27 25) false) k (st 126 [(1, x1), (7, x7), (8, x8), (9, x9), (11, x11), (12, x12), (13, x13), (14, x14), (100, x100)]) h =
    bnd (aIndexAddr tab 22 x13 x14) fun v1 =>
    bnd (aLoad tab 5 v1 h) fun v2 =>
    bnd (aBinC tab .add 5 v2 (.int .u8 1) true) fun v3 =>
    bnd (aIndexAddr tab 22 x13 x14) fun v4 =>
    bnd (aStore tab 5 v4 v3 h) fun h5 =>
    k .normal (st 126 [(1, x1), (7, x7), (8, x8), (9, x9), (11, x11), (12, x12), (13, x13), (14, x14)]) h5
  := by kernel_rfl
def J27_26_1 {β : Type} (call : CallF) (md : Bool) (k : Ex → List AV → Heap → Option β) (x1 x7 x8 x9 x112 : AV) (h : Heap) : Option β :=
    onG false x112 (
      bnd2 (aCall call md (.fn (.func 23) []) [x7] h) fun v1 h2 =>
      bnd (aNil x8) fun v3 =>
      bnd (aFieldAddr tab 74 v3 1) fun v4 =>
      bnd (aLoad tab 72 v4 h2) fun v5 =>
      bnd (aLen tab 72 v5) fun v6 =>
      bnd (aBinC tab .neq 3 v1 v6 false) fun v7 =>
      bnd (aPick x112 (.bool true) v7) fun v8 =>
      onT (rdSame (aLoad tab 72 v4 h) v5) <|
      k .normal (st 126 [(1, x1), (7, x7), (8, x8), (9, x9), (121, v8)]) h2) (
      bnd (aPick x112 (.bool true) .skip) fun v9 =>
      k .normal (st 126 [(1, x1), (7, x7), (8, x8), (9, x9), (121, v9)]) h)

theorem j27_26_1 {β : Type} (call : CallF) (md : Bool) (k : Ex → List AV → Heap → Option β) (x1 x7 x8 x9 x11 x12 x13 x14 x100 x109 x110 x111 x112 : AV) (h : Heap) :
    trcK C0 call md 27 (O27 26) ((O27 26).toList.drop 4) (st 126 [(1, x1), (7, x7), (8, x8), (9, x9), (11, x11), (12, x12), (13, x13), (14, x14), (100, x100), (109, x109), (110, x110), (111, x111), (112, x112)]) h [((st 126 [(1, x1), (7, x7), (8, x8), (9, x9), (11, x11), (12, x12), (13, x13), (14, x14), (100, x100)]), h, x109), ((st 126 [(1, x1), (7, x7), (8, x8), (9, x9), (11, x11), (12, x12), (13, x13), (14, x14), (100, x100), (109, x109)]), h, x110), ((st 126 [(1, x1), (7, x7), (8, x8), (9, x9), (11, x11), (12, x12), (13, x13), (14, x14), (100, x100), (109, x109), (110, x110)]), h, x111), ((st 126 [(1, x1), (7, x7), (8, x8), (9, x9), (11, x11), (12, x12), (13, x13), (14, x14), (100, x100), (109, x109), (110, x110), (111, x111)]), h, x112)] (fun tr tm h => chkK C0 (O27 26) (O27 26).toList tr h [(9, 5)] (k .normal (clr (C0.keep 27 26) tm) h)) = J27_26_1 call md k x1 x7 x8 x9 x112 h :=
  by cases x112 with | bool b => (cases b <;> kernel_rfl) | _ => kernel_rfl
theorem g27_26_0 {β : Type} (call : CallF) (md : Bool) (kk : List (List AV × Heap × AV) → List AV → Heap → Option β) (x1 x7 x8 x9 x11 x12 x13 x14 x100 : AV) (h : Heap) :
    trcK C0 call md 27 (O27 26) ((O27 26).toList.take 4) (st 126 [(1, x1), (7, x7), (8, x8), (9, x9), (11, x11), (12, x12), (13, x13), (14, x14), (100, x100)]) h [] kk =
    bnd (aBinC tab .neq 27 x11 x12 false) fun v10 =>
    kk [((st 126 [(1, x1), (7, x7), (8, x8), (9, x9), (11, x11), (12, x12), (13, x13), (14, x14), (100, x100)]), h, x11), ((st 126 [(1, x1), (7, x7), (8, x8), (9, x9), (11, x11), (12, x12), (13, x13), (14, x14), (100, x100), (109, x11)]), h, x12), ((st 126 [(1, x1), (7, x7), (8, x8), (9, x9), (11, x11), (12, x12), (13, x13), (14, x14), (100, x100), (109, x11), (110, x12)]), h, v10), ((st 126 [(1, x1), (7, x7), (8, x8), (9, x9), (11, x11), (12, x12), (13, x13), (14, x14), (100, x100), (109, x11), (110, x12), (111, v10)]), h, v10)] (st 126 [(1, x1), (7, x7), (8, x8), (9, x9), (11, x11), (12, x12), (13, x13), (14, x14), (100, x100), (109, x11), (110, x12), (111, v10), (112, v10)]) h
  := by kernel_rfl
theorem r27_26 {β : Type} (call : CallF) (md : Bool) (n : Nat) (k : Ex → List AV → Heap → Option β) (x1 x7 x8 x9 x11 x12 x13 x14 x100 : AV) (h : Heap) :
    runK C0 call md 27 n (.region 26 (O27 26) true) k (st 126 [(1, x1), (7, x7), (8, x8), (9, x9), (11, x11), (12, x12), (13, x13), (14, x14), (100, x100)]) h =
    bnd (aBinC tab .neq 27 x11 x12 false) fun v11 =>
    J27_26_1 call md k x1 x7 x8 x9 v11 h
  := by
  have e1 := runK_draw C0 call md 27 n 26 (O27 26) k (st 126 [(1, x1), (7, x7), (8, x8), (9, x9), (11, x11), (12, x12), (13, x13), (14, x14), (100, x100)]) h
  have e := regK_pairs (β := β) C0 call md 27 (ops := (O27 26)) (ps := [(9, 5)]) (by kernel_rfl) (by kernel_rfl) (st 126 [(1, x1), (7, x7), (8, x8), (9, x9), (11, x11), (12, x12), (13, x13), (14, x14), (100, x100)]) h (fun tm h => k .normal (clr (C0.keep 27 26) tm) h)
  refine e1.trans (e.trans ?_)
  have e2 : (O27 26).toList = (O27 26).toList.take 4 ++ (O27 26).toList.drop 4 := by kernel_rfl
  rw [show trcK C0 call md 27 (O27 26) (O27 26).toList = trcK C0 call md 27 (O27 26) ((O27 26).toList.take 4 ++ (O27 26).toList.drop 4) from congrArg _ e2, trcK_append, g27_26_0]
  simp only [j27_26_1]
theorem r27_27 {β : Type} (call : CallF) (md : Bool) (n : Nat) (k : Ex → List AV → Heap → Option β) (x1 x7 x8 x9 x121 : AV) (h : Heap) :
    runK C0 call md 27 n (.region 27 (O27 27) false) k (st 126 [(1, x1), (7, x7), (8, x8), (9, x9), (121, x121)]) h =
    k .normal (st 126 [(4, x7), (5, x8), (6, (.bool false))]) h
  := by kernel_rfl
theorem r27_28 {β : Type} (call : CallF) (md : Bool) (n : Nat) (k : Ex → List AV → Heap → Option β) (x1 x7 x8 x9 x26 : AV) (h : Heap) :
    runK C0 call md 27 n (.region 28 (O27 28) false) k (st 126 [(1, x1), (7, x7), (8, x8), (9, x9), (26, x26)]) h =
    k .normal (st 126 [(4, x7), (5, x8), (6, (.bool true))]) h
  := by kernel_rfl
end Go.Ax

/- law 3's both: the same happens to the program's disk and to the reference's. -/
namespace Go.Ax
open Go Go.Proofs

/-- What happens to a disk. -/
structure Ac where
  what : Int
  at' : Int
  n : Int
  b : List UInt8
  keep : Nat

inductive AcsL : List AV → List Ac → Prop
  | nil : AcsL [] []
  | cons {x a vs cs} : Bs x a.b → a.keep < 2 ^ 64 → a.n < 2 ^ 63 → AcsL vs cs → AcsL (.agg 95 [.int .i64 a.what, .int .i64 a.at', .int .i64 a.n, x, .int .u64 a.keep] :: vs) (a :: cs)
theorem AcsL.length : ∀ {l : List AV} {m : List Ac}, AcsL l m → l.length = m.length
  | _, _, .nil => rfl
  | _, _, .cons _ _ _ t => by simp [AcsL.length t]
theorem AcsL.get : ∀ {vs : List AV} {cs : List Ac}, AcsL vs cs → ∀ {i : Nat} {a : Ac}, cs[i]? = some a → ∃ x, vs[i]? = some (.agg 95 [.int .i64 a.what, .int .i64 a.at', .int .i64 a.n, x, .int .u64 a.keep]) ∧ Bs x a.b ∧ a.keep < 2 ^ 64 ∧ a.n < 2 ^ 63
  | _, _, .nil, i, l, h => by simp at h
  | _, _, .cons a b c t, 0, l, h => by simp at h; subst h; exact ⟨_, rfl, a, b, c⟩
  | _, _, .cons a b c t, i + 1, l, h => by simpa using t.get (i := i) (by simpa using h)

theorem u8_add1 (b : UInt8) : aBinC tab .add 5 (U8 b) (.int .u8 1) true = some (U8 (b + 1)) := by
  have e : (IntKind.u8.wrap ((b.toNat : Int) + 1)) = (((b + 1).toNat : Nat) : Int) := by
    rw [wrap_u8, UInt8.toNat_add]
    have : (1 : UInt8).toNat = 1 := rfl
    rw [this]
    omega
  simp only [U8, bin_add, e]

/-- The bytes that were handed in are changed. -/
theorem inc_loop (x1 x7 x8 x9 x11 x12 x13 : AV) (q L : Nat) (hlen : aLen tab 22 x13 = some (.int .i64 L)) (hx : L ≠ 0 → x13 = .msl q [] 5 0 L) (hL : L < 2 ^ 30) (call : CallF) (md : Bool) (N : Nat) :
    ∀ (m j n : Nat) (h : Heap) (l : List UInt8), j + m = L → m < n → l.length = L → (L ≠ 0 → h[q]? = some (.row 5 (l.map U8))) →
    ∃ h', (∀ K : Ex → List AV → Heap → Option (AV × Heap), loopK (fun next => runK C0 call md 27 N B27_1 (seqE next K)) n (st 126 [(1, x1), (7, x7), (8, x8), (9, x9), (11, x11), (12, x12), (13, x13), (14, .int .i64 j)]) h =
      K (.exit 3) (st 126 [(1, x1), (7, x7), (8, x8), (9, x9), (11, x11), (12, x12), (13, x13), (14, .int .i64 L), (100, .bool false)]) h') ∧
      Keep (fun i => i = q ∧ L ≠ 0) h h' ∧ h'.length = h.length := by
  intro m
  induction m with
  | zero =>
    intro j n h l hj hn hl hr
    obtain ⟨n, rfl⟩ : ∃ j, n = j + 1 := ⟨n - 1, by omega⟩
    obtain rfl : j = L := by omega
    refine ⟨h, fun K => ?_, Keep.refl _ _, rfl⟩
    rw [loopK_succ]
    generalize loopK (_ : (List AV → Heap → Option (AV × Heap)) → List AV → Heap → Option (AV × Heap)) n = Lp
    have e : decide (((j : Nat) : Int) < (j : Nat)) = false := decide_eq_false (by omega)
    simp -implicitDefEqProofs only [B27_1, ↓runK_seq, runK_seq, ↓runK_cond, runK_cond, ↓runK_block, runK_block, ↓runK_loop, runK_loop, ↓runK_skip, runK_skip, ↓runK_ret, runK_ret, ↓runK_exit, runK_exit, ↓seqE_n, seqE_n, ↓seqE_e, seqE_e, ↓seqE_r, seqE_r, ↓blkE_n, blkE_n, ↓blkE_e, blkE_e, ↓blkE_r, blkE_r, ↓retK_n, retK_n, ↓retK_r, retK_r, ↓aCall_fn, aCall_fn, ↓bnd_s, bnd_s, ↓bnd2_s, bnd2_s, ↓onB_t, onB_t, ↓onB_f, onB_f, ↓onG_tt, onG_tt, ↓onG_tf, onG_tf, ↓onG_ft, onG_ft, ↓onG_ff, onG_ff, ↓onG_s, onG_s, ↓onT_t, onT_t, ↓aPick_t, aPick_t, ↓aPick_f, aPick_f, decide_true, decide_false, st_tmp, results1, results2, List.lookup_cons, List.lookup_nil, Nat.reduceBEq, Bool.false_eq_true, ↓reduceIte, BEq.rfl, Nat.reduceLT, Option.getD_some, Option.getD_none, r27_23, hlen, bin_lss, e]
  | succ m ih =>
    intro j n h l hj hn hl hr
    obtain ⟨n, rfl⟩ : ∃ j, n = j + 1 := ⟨n - 1, by omega⟩
    have hne : L ≠ 0 := by omega
    obtain ⟨b, hb⟩ : ∃ b, l[j]? = some b := ⟨l[j]'(by omega), List.getElem?_eq_getElem _⟩
    have hlt : j < l.length := by omega
    have e : decide (((j : Nat) : Int) < (L : Nat)) = true := decide_eq_true (by omega)
    have wr : IntKind.i64.wrap ((j : Int) + 1) = ((j + 1 : Nat) : Int) := by rw [wrap_i64] <;> omega
    have hq := hr hne
    have ix : aIndexAddr tab 22 x13 (.int .i64 j) = some (.ref q [j] 5) := by rw [hx hne]; simp [aIndexAddr]; omega
    have ld : aLoad tab 5 (.ref q [j] 5) h = some (U8 b) := by simp [aLoad, hq, objGet, getP, hb]
    have sr : aStore tab 5 (.ref q [j] 5) (U8 (b + 1)) h = some (h.set q (.row 5 ((l.set j (b + 1)).map U8))) := by
      have hf : fits tab 5 (U8 (b + 1)) = true := rfl
      simp [aStore, hf, hq, objSet, setP, hlt, List.map_set]
    have hql := (List.getElem?_eq_some_iff.1 hq).1
    obtain ⟨h', g1, g2, g3⟩ := ih (j + 1) n (h.set q (.row 5 ((l.set j (b + 1)).map U8))) (l.set j (b + 1)) (by omega) (by omega) (by simpa using hl) (fun _ => by simp [hql])
    refine ⟨h', fun K => ?_, (Keep.set (S := fun i => i = q ∧ L ≠ 0) h _ ⟨rfl, hne⟩).trans g2, by rw [g3]; simp⟩
    rw [loopK_succ, ← g1 K]
    generalize loopK (_ : (List AV → Heap → Option (AV × Heap)) → List AV → Heap → Option (AV × Heap)) n = Lp
    simp -implicitDefEqProofs only [B27_1, ↓runK_seq, runK_seq, ↓runK_cond, runK_cond, ↓runK_block, runK_block, ↓runK_loop, runK_loop, ↓runK_skip, runK_skip, ↓runK_ret, runK_ret, ↓runK_exit, runK_exit, ↓seqE_n, seqE_n, ↓seqE_e, seqE_e, ↓seqE_r, seqE_r, ↓blkE_n, blkE_n, ↓blkE_e, blkE_e, ↓blkE_r, blkE_r, ↓retK_n, retK_n, ↓retK_r, retK_r, ↓aCall_fn, aCall_fn, ↓bnd_s, bnd_s, ↓bnd2_s, bnd2_s, ↓onB_t, onB_t, ↓onB_f, onB_f, ↓onG_tt, onG_tt, ↓onG_tf, onG_tf, ↓onG_ft, onG_ft, ↓onG_ff, onG_ff, ↓onG_s, onG_s, ↓onT_t, onT_t, ↓aPick_t, aPick_t, ↓aPick_f, aPick_f, decide_true, decide_false, st_tmp, results1, results2, List.lookup_cons, List.lookup_nil, Nat.reduceBEq, Bool.false_eq_true, ↓reduceIte, BEq.rfl, Nat.reduceLT, Option.getD_some, Option.getD_none, r27_23, r27_24, r27_25, hlen, bin_lss, e, ix, ld, u8_add1, sr, bin_add, wr]

theorem app22t {x y : AV} {l : List AV} {h : Heap} (e : srcElems tab 5 h y = some l) : aApp tab 22 22 true x y h = aAppend tab 5 true x l h := by
  simp [aApp, e]

/-- The bytes that are handed in: a row of their own. -/
theorem in_ok {v : AV} {l : List UInt8} (hv : Bs v l) (h : Heap) (hl : l.length < 2 ^ 30) :
    ∃ x h', aApp tab 22 22 true (.vsl 5 [] .exact) v h = some (x, h') ∧ aLen tab 22 x = some (.int .i64 l.length) ∧ (l.length ≠ 0 → x = .msl h.length [] 5 0 l.length) ∧ (l.length ≠ 0 → h'[h.length]? = some (.row 5 (l.map U8))) ∧
      Keep (From h.length) h h' ∧ By (fun i => i = h.length) h' x l ∧ (l.length = 0 → Bs x l) := by
  have b0 : By (fun _ => False) h v l := .inl hv
  rw [app22t b0.src]
  cases l with
  | nil => exact ⟨.vsl 5 [] .exact, h, rfl, by simp [aLen], fun h => absurd rfl h, fun h => absurd rfl h, Keep.refl _ _, .inl (.inr ⟨_, rfl⟩), fun _ => .inr ⟨_, rfl⟩⟩
  | cons a l =>
    refine ⟨.msl h.length [] 5 0 (a :: l).length, h ++ [.row 5 ((a :: l).map U8)], ?_, by simp [aLen], fun _ => rfl, fun _ => by simp, Keep.app h _ (Up.fresh h), .inr ⟨h.length, [], 0, (a :: l).map U8, rfl, rfl, by simp [rowGet], by simp, ?_⟩, fun h => by simp at h⟩
    · simp only [aAppend, List.map_cons]
      rw [if_pos ⟨by simp, by simp; simp at hl; omega, by simp; simp at hl; omega, by simp, by simp⟩]
      simp
    · rw [List.drop_zero, List.take_of_length_le (by simp)]

def actD (d : Dk) (a : Ac) : Int × Dk :=
  if a.what = 0 then d.write a.at' a.b else if a.what = 1 then d.flush else if a.what = 2 then (0, d.crash a.keep a.n a.at') else if a.what = 3 then (0, d.setFuse a.n) else (0, d)
def actR (d : Dk) (a : Ac) : Int × Dk :=
  if a.what = 0 then d.rwrite a.at' a.b else if a.what = 1 then d.rflush else if a.what = 2 then (0, d.crash a.keep a.n a.at') else if a.what = 3 then (0, d.setFuse a.n) else (0, d)
theorem act_eq {d v : Dk} (e : DkEq d v) (a : Ac) : (actD d a).1 = (actR v a).1 ∧ DkEq (actD d a).2 (actR v a).2 := by
  unfold actD actR
  split
  · exact e.write _ _
  · split
    · exact e.flush
    · split
      · exact ⟨rfl, e.crash _ _ _⟩
      · split
        · exact ⟨rfl, e.setFuse _⟩
        · exact ⟨rfl, e⟩
theorem actD_loose (d : Dk) (a : Ac) : (actD d a).2.loose.length ≤ d.loose.length + 1 := by
  unfold actD
  split
  · exact write_loose _ _ _
  · split
    · have := flush_loose d; omega
    · split
      · simp [Dk.crash]
      · split
        · simp [Dk.setFuse]
        · simp
theorem actD_fuse (d : Dk) (a : Ac) (h : d.fuse < 2 ^ 63) (ha : a.n < 2 ^ 63) : (actD d a).2.fuse < 2 ^ 63 := by
  unfold actD
  split
  · have := write_fuse d a.at' a.b; omega
  · split
    · have := flush_fuse d; omega
    · split
      · simp [Dk.crash]
      · split
        · simp only [Dk.setFuse]; omega
        · exact h

theorem alloc96 (h : Heap) : aAlloc tab 96 h = some (.ref h.length [] 95, h ++ [.var 96 (.agg 95 [.int .i64 0, .int .i64 0, .int .i64 0, .nils, .int .u64 0])]) := by kernel_rfl
theorem sn96 (h : Heap) (fs : List AV) : aStore tab 96 (.ref h.length [] 95) (.agg 95 fs) (h ++ [.var 96 (.agg 95 [.int .i64 0, .int .i64 0, .int .i64 0, .nils, .int .u64 0])]) = some (h ++ [.var 96 (.agg 95 fs)]) :=
  store_new (by simp) (by simp [fits])
theorem load96v (h : Heap) (v : AV) : aLoad tab 96 (.vptr 95 v) h = some v := by simp [aLoad]
theorem fa96_0 (q : Nat) : aFieldAddr tab 96 (.ref q [] 95) 0 = some (.ref q [0] 3) := by simp [aFieldAddr]
theorem fa96_1 (q : Nat) : aFieldAddr tab 96 (.ref q [] 95) 1 = some (.ref q [1] 3) := by simp [aFieldAddr]
theorem fa96_2 (q : Nat) : aFieldAddr tab 96 (.ref q [] 95) 2 = some (.ref q [2] 3) := by simp [aFieldAddr]
theorem fa96_3 (q : Nat) : aFieldAddr tab 96 (.ref q [] 95) 3 = some (.ref q [3] 22) := by simp [aFieldAddr]
theorem fa96_4 (q : Nat) : aFieldAddr tab 96 (.ref q [] 95) 4 = some (.ref q [4] 44) := by simp [aFieldAddr]
section
variable {h : Heap} {q : Nat} {a b c d e : AV} (hq : h[q]? = some (.var 96 (.agg 95 [a, b, c, d, e])))
include hq
theorem ld96_0 : aLoad tab 3 (.ref q [0] 3) h = some a := load_fld (i := 0) hq rfl (by simp)
theorem ld96_1 : aLoad tab 3 (.ref q [1] 3) h = some b := load_fld (i := 1) hq rfl (by simp)
theorem ld96_2 : aLoad tab 3 (.ref q [2] 3) h = some c := load_fld (i := 2) hq rfl (by simp)
theorem ld96_3 : aLoad tab 22 (.ref q [3] 22) h = some d := load_fld (i := 3) hq rfl (by simp)
theorem ld96_4 : aLoad tab 44 (.ref q [4] 44) h = some e := load_fld (i := 4) hq rfl (by simp)
end
theorem len48 (l : List AV) (k : Tok) : aLen tab 48 (.vsl 95 l k) = some (.int .i64 l.length) := by simp [aLen]
theorem idx48 {l : List AV} {k : Tok} {i : Nat} {v : AV} (hi : l[i]? = some v) : aIndexAddr tab 48 (.vsl 95 l k) (.int .i64 i) = some (.vptr 95 v) := by simp [aIndexAddr, hi]
end Go.Ax

/- One act, done to both disks. -/
namespace Go.Ax
open Go Go.Proofs

/-- One act, done to both: from the row that is handed in on. -/
theorem act_ok {b : Nat} {F : Obs} {h : Heap} {p r p' r' q : Nat} {d v : Dk} (T : Two b F h p r p' r' d v) (e : DkEq d v) (a : Ac) {x y : AV} (hx : Bs x a.b) (hy : By (fun i => i = q) h y a.b) (hq : a.b.length ≠ 0 → F q) (hq0 : a.b.length = 0 → Bs y a.b)
    (hk : a.keep < 2 ^ 64) (hl : d.loose.length < 2 ^ 20) (hf : d.fuse < 2 ^ 63) (hfv : v.fuse < 2 ^ 63) (k : Nat) (hkk : d.loose.length + 10 < k) :
    (a.what = 0 → ∃ h1 h2, exFn C0 E0 (k + 3) false 17 [dp p, .int .i64 a.at', y] h = some (.int .i64 (actD d a).1, h1) ∧ exFn C0 E0 (k + 3) false 54 [rp p', .int .i64 a.at', x] h1 = some (.int .i64 (actD d a).1, h2) ∧ Two b F h2 p r p' r' (actD d a).2 (actR v a).2 ∧ Keep (Zone b F h) h h1 ∧ Keep (Zone b F h) h h2) ∧
    (a.what = 1 → ∃ h1 h2, exFn C0 E0 (k + 3) false 18 [dp p] h = some (.int .i64 (actD d a).1, h1) ∧ exFn C0 E0 (k + 3) false 55 [rp p'] h1 = some (.int .i64 (actD d a).1, h2) ∧ Two b F h2 p r p' r' (actD d a).2 (actR v a).2 ∧ Keep (Zone b F h) h h1 ∧ Keep (Zone b F h) h h2) ∧
    (a.what = 2 → ∃ h1 h2, exFn C0 E0 (k + 3) false 25 [dp p, .int .u64 a.keep, .int .i64 a.n, .int .i64 a.at'] h = some (.tuple [], h1) ∧ exFn C0 E0 (k + 3) false 43 [rp p', .int .u64 a.keep, .int .i64 a.n, .int .i64 a.at'] h1 = some (.tuple [], h2) ∧
      Two b F h2 p r p' r' (actD d a).2 (actR v a).2 ∧ Keep (Zone b F h) h h1 ∧ Keep (Zone b F h) h h2) := by
  obtain ⟨ae, -⟩ := act_eq e a
  have hvl : v.loose.length = d.loose.length := by rw [e.loose]
  obtain ⟨S1, u1, D1, n1, -, af1⟩ := T.opD
  refine ⟨fun hw => ?_, fun hw => ?_, fun hw => ?_⟩
  · have e1 : actD d a = d.write a.at' a.b := by unfold actD; rw [if_pos hw]
    have e2 : actR v a = v.rwrite a.at' a.b := by unfold actR; rw [if_pos hw]
    rw [e1] at ae ⊢
    rw [e2] at ae ⊢
    have wr : ∃ h1, exFn C0 E0 (k + 3) false 17 [dp p, .int .i64 a.at', y] h = some (.int .i64 (d.write a.at' a.b).1, h1) ∧ Dsk S1 h1 p r (d.write a.at' a.b).2 ∧ Keep S1 h h1 := by
      by_cases h0 : a.b.length = 0
      · exact write_ok D1 u1 a.at' (U := fun _ => False) (.inl (hq0 h0)) (fun _ _ h => h.elim) (by omega) hf k
      · exact write_ok D1 u1 a.at' hy (fun i _ hi hs => n1 i (hi ▸ hq h0) hs) (by omega) hf k
    obtain ⟨h1, r1, D2, k1⟩ := wr
    obtain ⟨T1, z1⟩ := af1 h1 _ D2 k1
    obtain ⟨S2, u2, R1, n2, -, af2⟩ := T1.opR
    obtain ⟨h2, r2, R2, k2⟩ := rwrite_ok R1 u2 a.at' (U := fun _ => False) (.inl hx) (fun _ _ h => h.elim) (by omega) hfv k
    obtain ⟨T2, z2⟩ := af2 h2 _ R2 k2
    rw [← ae] at r2
    exact ⟨h1, h2, r1, r2, T2, z1, z1.trans z2⟩
  · have e1 : actD d a = d.flush := by unfold actD; rw [if_neg (by omega), if_pos hw]
    have e2 : actR v a = v.rflush := by unfold actR; rw [if_neg (by omega), if_pos hw]
    rw [e1] at ae ⊢
    rw [e2] at ae ⊢
    obtain ⟨h1, r1, D2, k1⟩ := flush_ok D1 u1 (by omega) hf false (k + 2) (by omega)
    obtain ⟨T1, z1⟩ := af1 h1 _ D2 k1
    obtain ⟨S2, u2, R1, n2, -, af2⟩ := T1.opR
    obtain ⟨h2, r2, R2, k2⟩ := rflush_ok R1 (by omega) hfv false (k + 2) (by omega)
    obtain ⟨T2, z2⟩ := af2 h2 _ R2 k2
    rw [← ae] at r2
    exact ⟨h1, h2, r1, r2, T2, z1, z1.trans z2⟩
  · have e1 : actD d a = (0, d.crash a.keep a.n a.at') := by unfold actD; rw [if_neg (by omega), if_neg (by omega), if_pos hw]
    have e2 : actR v a = (0, v.crash a.keep a.n a.at') := by unfold actR; rw [if_neg (by omega), if_neg (by omega), if_pos hw]
    rw [e1, e2]
    obtain ⟨h1, r1, D2, k1⟩ := crash_ok D1 u1 (by omega) a.keep hk a.n a.at' false (k + 2) (by omega)
    obtain ⟨T1, z1⟩ := af1 h1 _ D2 k1
    obtain ⟨S2, u2, R1, n2, -, af2⟩ := T1.opR
    obtain ⟨h2, r2, R2, k2⟩ := rcrash_ok R1 u2 (by omega) a.keep a.n a.at' (k + 2) (by omega)
    obtain ⟨T2, z2⟩ := af2 h2 _ R2 k2
    exact ⟨h1, h2, r1, r2, T2, z1, z1.trans z2⟩

/-- The reference's fuse is set: by the law itself. -/
theorem rfuse_ok {S : Obs} {p r : Nat} {h : Heap} {v : Dk} (R : Rsk S h p r v) (n : Int) :
    ∃ h1, aStore tab 3 (.ref p [2] 3) (.int .i64 n) h = some h1 ∧ Keep S h h1 ∧ (¬ n < 0 → Rsk S h1 p r (v.setFuse n)) ∧
      (n < 0 → ∃ h2, aStore tab 3 (.ref p [2] 3) (.int .i64 0) h1 = some h2 ∧ Keep S h h2 ∧ Rsk S h2 p r (v.setFuse n)) := by
  obtain ⟨y, vs, hy, ha, hv⟩ := R.var
  have hlt := (List.getElem?_eq_some_iff.1 hy).1
  have hx1 : (h.set p (rv r v.lasts.length y n v.down))[p]? = some (rv r v.lasts.length y n v.down) := by simp [hlt]
  refine ⟨_, rst2 hy n, Keep.set h _ R.hp, fun hn => ?_, fun hn => ⟨_, rst2 hx1 0, ?_, ?_⟩⟩
  · have := R.upd hy ha hv n v.down
    unfold Dk.setFuse
    rw [show max n 0 = n by omega]
    exact this
  · rw [List.set_set]; exact Keep.set h _ R.hp
  · rw [List.set_set]
    have := R.upd hy ha hv 0 v.down
    unfold Dk.setFuse
    rw [show max n 0 = 0 by omega]
    exact this
end Go.Ax

/- both: whatever happens, both disks are alike. -/
namespace Go.Ax
open Go Go.Proofs

theorem actR_fuse (d : Dk) (a : Ac) (h : d.fuse < 2 ^ 63) (ha : a.n < 2 ^ 63) : (actR d a).2.fuse < 2 ^ 63 := by
  unfold actR
  split
  · have := rwrite_fuse d a.at' a.b; omega
  · split
    · unfold Dk.rflush
      split
      · exact h
      · simp only [Dk.rburn]; split <;> omega
    · split
      · simp [Dk.crash]
      · split
        · simp only [Dk.setFuse]; omega
        · exact h

/-- Act 3, or none that is known. -/
theorem act3_ok {b : Nat} {F : Obs} {h : Heap} {p r p' r' : Nat} {d v : Dk} (T : Two b F h p r p' r' d v) (a : Ac) (hw : a.what = 3) (k : Nat) :
    ∃ h1 h2, exFn C0 E0 (k + 1) false 24 [dp p, .int .i64 a.n] h = some (.tuple [], h1) ∧ aStore tab 3 (.ref p' [2] 3) (.int .i64 a.n) h1 = some h2 ∧ Keep (Zone b F h) h h1 ∧ Keep (Zone b F h) h h2 ∧
      (¬ a.n < 0 → Two b F h2 p r p' r' (actD d a).2 (actR v a).2) ∧
      (a.n < 0 → ∃ h3, aStore tab 3 (.ref p' [2] 3) (.int .i64 0) h2 = some h3 ∧ Keep (Zone b F h) h h3 ∧ Two b F h3 p r p' r' (actD d a).2 (actR v a).2) := by
  have e1 : actD d a = (0, d.setFuse a.n) := by unfold actD; rw [if_neg (by omega), if_neg (by omega), if_neg (by omega), if_pos hw]
  have e2 : actR v a = (0, v.setFuse a.n) := by unfold actR; rw [if_neg (by omega), if_neg (by omega), if_neg (by omega), if_pos hw]
  rw [e1, e2]
  obtain ⟨S1, u1, D1, n1, -, af1⟩ := T.opD
  obtain ⟨h1, r1, D2, k1⟩ := fuse_ok D1 a.n false k
  obtain ⟨T1, z1⟩ := af1 h1 _ D2 k1
  obtain ⟨S2, u2, R1, n2, zs, af2⟩ := T1.opR
  obtain ⟨h2, s1, k2, c1, c2⟩ := rfuse_ok R1 a.n
  have z2 : Keep (Zone b F h) h h2 := z1.trans (k2.mono zs)
  exact ⟨h1, h2, r1, s1, z1, z2, fun hn => (af2 h2 _ (c1 hn) k2).1, fun hn => by
    obtain ⟨h3, s3, k3, R3⟩ := c2 hn
    obtain ⟨T3, z3⟩ := af2 h3 _ R3 k3
    exact ⟨h3, s3, z1.trans z3, T3⟩⟩
end Go.Ax

/- both: what follows an act: the bytes handed in are changed, the loose writes are counted. -/
namespace Go.Ax
open Go Go.Proofs

theorem tail_ok {b : Nat} {F : Obs} {p r p' r' q L : Nat} {d v : Dk} {h : Heap} {X x9 y : AV} {l : List UInt8} (w : Int) (T : Two b F h p r p' r' d v) (e : DkEq d v) (hlen : aLen tab 22 y = some (.int .i64 L)) (hx : L ≠ 0 → y = .msl q [] 5 0 L) (hL : L < 2 ^ 30)
    (hl : l.length = L) (hr : L ≠ 0 → h[q]? = some (.row 5 (l.map U8))) (hF : L ≠ 0 → F q) (hdl : d.loose.length < 2 ^ 20) (N : Nat) (hN : L + d.loose.length + 10 < N) :
    ∃ h', (∀ Kc : Ex → List AV → Heap → Option (AV × Heap), loopK (fun next => runK C0 (exFn C0 E0 (N + 3)) false 27 (N + 3) B27_1 (seqE next (blkE 3 (seqE (runK C0 (exFn C0 E0 (N + 3)) false 27 (N + 3) (.seq (.region 26 (O27 26) true) (.cond (.tmp 121) (.seq (.region 27 (O27 27) false) .ret) .skip)) Kc) Kc)))) (N + 3)
      (st 126 [(1, X), (7, dp p), (8, rp p'), (9, x9), (11, .int .i64 w), (12, .int .i64 w), (13, y), (14, .int .i64 0)]) h = Kc .normal (st 126 [(1, X), (7, dp p), (8, rp p'), (9, x9), (121, .bool false)]) h') ∧
      Two b (fun _ => False) h' p r p' r' d v ∧ ∃ h4, Keep (fun i => i = q ∧ L ≠ 0) h h4 ∧ Keep (From h4.length) h4 h' := by
  obtain ⟨h4, g1, g2, g3⟩ := inc_loop X (dp p) (rp p') x9 (.int .i64 w) (.int .i64 w) y q L hlen hx hL (exFn C0 E0 (N + 3)) false (N + 3) L 0 (N + 3) h l (by omega) (by omega) hl hr
  have T4 := T.other g2 (fun i hi => hi.1 ▸ hF hi.2)
  obtain ⟨S, D4⟩ := T4.dsk
  obtain ⟨h5, lo, k5⟩ := loose_ok D4 (by omega) (N + 1) (by omega)
  have T5 := T4.alloc k5
  obtain ⟨S', R4⟩ := T4.rsk
  obtain ⟨x, vs, hx4, ha4, hv4⟩ := R4.var
  have hx5 : h5[p']? = some (rv r' v.lasts.length x v.fuse v.down) := by
    rw [k5.2 p' (fun hh => Nat.not_le.2 (List.getElem?_eq_some_iff.1 hx4).1 hh)]; exact hx4
  have hl72 := len72 ha4
  rw [hv4.length, ← e.loose] at hl72
  rw [show ((0 : Nat) : Int) = 0 from rfl] at g1
  refine ⟨h5, fun Kc => ?_, T5.forget fun _ h => h.elim, h4, g2, k5⟩
  rw [g1]
  have c0 : decide (w ≠ w) = false := decide_eq_false fun h => h rfl
  have c1 : decide (((d.loose.length : Nat) : Int) ≠ (d.loose.length : Nat)) = false := decide_eq_false fun h => h rfl
  simp -implicitDefEqProofs only [↓runK_seq, runK_seq, ↓runK_cond, runK_cond, ↓runK_block, runK_block, ↓runK_loop, runK_loop, ↓runK_skip, runK_skip, ↓runK_ret, runK_ret, ↓runK_exit, runK_exit, ↓seqE_n, seqE_n, ↓seqE_e, seqE_e, ↓seqE_r, seqE_r, ↓blkE_n, blkE_n, ↓blkE_e, blkE_e, ↓blkE_r, blkE_r, ↓retK_n, retK_n, ↓retK_r, retK_r, ↓aCall_fn, aCall_fn, ↓bnd_s, bnd_s, ↓bnd2_s, bnd2_s, ↓onB_t, onB_t, ↓onB_f, onB_f, ↓onG_tt, onG_tt, ↓onG_tf, onG_tf, ↓onG_ft, onG_ft, ↓onG_ff, onG_ff, ↓onG_s, onG_s, ↓onT_t, onT_t, ↓aPick_t, aPick_t, ↓aPick_f, aPick_f, decide_true, decide_false, st_tmp, results1, results2, List.lookup_cons, List.lookup_nil, Nat.reduceBEq, Bool.false_eq_true, ↓reduceIte, BEq.rfl, Nat.reduceLT, Option.getD_some, Option.getD_none, r27_26, J27_26_1, bin_neq, c0, lo, rp_chk, rpf1, rld1 hx5, rld1 hx4, hl72, c1, rdSame_refl]
end Go.Ax

/- both: the loop over what happens. -/
namespace Go.Ax
open Go Go.Proofs

set_option maxHeartbeats 4000000 in
theorem both_loop {b : Nat} {p r p' r' : Nat} {vs : List AV} {acts : List Ac} {tk : Tok} (ha : AcsL vs acts) (hL : acts.length < 2 ^ 63) (N : Nat) (hN : 400 < N) :
    ∀ (m i n : Nat) (h : Heap) (d v : Dk), i + m = min acts.length 60 → m < n → Two b (fun _ => False) h p r p' r' d v → DkEq d v → d.loose.length ≤ i → d.fuse < 2 ^ 63 → v.fuse < 2 ^ 63 →
    ∃ h' d' v' j, (∀ K : Ex → List AV → Heap → Option (AV × Heap), loopK (fun next => runK C0 (exFn C0 E0 (N + 3)) false 27 (N + 3) B27_2 (seqE next K)) n (st 126 [(1, .vsl 95 vs tk), (7, dp p), (8, rp p'), (9, .int .i64 i)]) h =
      K (.exit 0) (st 126 [(1, .vsl 95 vs tk), (7, dp p), (8, rp p'), (9, j), (26, .bool false)]) h') ∧
      Two b (fun _ => False) h' p r p' r' d' v' ∧ DkEq d' v' ∧ d'.loose.length ≤ 60 ∧ d'.fuse < 2 ^ 63 ∧ v'.fuse < 2 ^ 63 ∧ Keep (From b) h h' := by
  intro m
  induction m with
  | zero =>
    intro i n h d v hi hn T e hl hf hfv
    obtain ⟨n, rfl⟩ : ∃ j, n = j + 1 := ⟨n - 1, by omega⟩
    refine ⟨h, d, v, .int .i64 i, fun K => ?_, T, e, by omega, hf, hfv, Keep.refl _ _⟩
    rw [loopK_succ]
    generalize loopK (_ : (List AV → Heap → Option (AV × Heap)) → List AV → Heap → Option (AV × Heap)) n = Lp
    have hlen : aLen tab 48 (.vsl 95 vs tk) = some (.int .i64 acts.length) := by rw [len48, ha.length]
    by_cases q : i < acts.length
    · have e1 : decide ((i : Int) < (acts.length : Nat)) = true := decide_eq_true (by omega)
      have e2 : decide ((i : Int) < 60) = false := decide_eq_false (by omega)
      simp -implicitDefEqProofs only [B27_2, ↓runK_seq, runK_seq, ↓runK_cond, runK_cond, ↓runK_block, runK_block, ↓runK_loop, runK_loop, ↓runK_skip, runK_skip, ↓runK_ret, runK_ret, ↓runK_exit, runK_exit, ↓seqE_n, seqE_n, ↓seqE_e, seqE_e, ↓seqE_r, seqE_r, ↓blkE_n, blkE_n, ↓blkE_e, blkE_e, ↓blkE_r, blkE_r, ↓retK_n, retK_n, ↓retK_r, retK_r, ↓aCall_fn, aCall_fn, ↓bnd_s, bnd_s, ↓bnd2_s, bnd2_s, ↓onB_t, onB_t, ↓onB_f, onB_f, ↓onG_tt, onG_tt, ↓onG_tf, onG_tf, ↓onG_ft, onG_ft, ↓onG_ff, onG_ff, ↓onG_s, onG_s, ↓onT_t, onT_t, ↓aPick_t, aPick_t, ↓aPick_f, aPick_f, decide_true, decide_false, st_tmp, results1, results2, List.lookup_cons, List.lookup_nil, Nat.reduceBEq, Bool.false_eq_true, ↓reduceIte, BEq.rfl, Nat.reduceLT, Option.getD_some, Option.getD_none, r27_3, J27_3_0, J27_3_1, J27_3_2, hlen, bin_lss, e1, e2]
    · have e1 : decide ((i : Int) < (acts.length : Nat)) = false := decide_eq_false (by omega)
      simp -implicitDefEqProofs only [B27_2, ↓runK_seq, runK_seq, ↓runK_cond, runK_cond, ↓runK_block, runK_block, ↓runK_loop, runK_loop, ↓runK_skip, runK_skip, ↓runK_ret, runK_ret, ↓runK_exit, runK_exit, ↓seqE_n, seqE_n, ↓seqE_e, seqE_e, ↓seqE_r, seqE_r, ↓blkE_n, blkE_n, ↓blkE_e, blkE_e, ↓blkE_r, blkE_r, ↓retK_n, retK_n, ↓retK_r, retK_r, ↓aCall_fn, aCall_fn, ↓bnd_s, bnd_s, ↓bnd2_s, bnd2_s, ↓onB_t, onB_t, ↓onB_f, onB_f, ↓onG_tt, onG_tt, ↓onG_tf, onG_tf, ↓onG_ft, onG_ft, ↓onG_ff, onG_ff, ↓onG_s, onG_s, ↓onT_t, onT_t, ↓aPick_t, aPick_t, ↓aPick_f, aPick_f, decide_true, decide_false, st_tmp, results1, results2, List.lookup_cons, List.lookup_nil, Nat.reduceBEq, Bool.false_eq_true, ↓reduceIte, BEq.rfl, Nat.reduceLT, Option.getD_some, Option.getD_none, r27_3, J27_3_0, J27_3_1, J27_3_2, hlen, bin_lss, e1]
  | succ m ih =>
    intro i n h d v hi hn T e hl hf hfv
    obtain ⟨n, rfl⟩ : ∃ j, n = j + 1 := ⟨n - 1, by omega⟩
    have hlen : aLen tab 48 (.vsl 95 vs tk) = some (.int .i64 acts.length) := by rw [len48, ha.length]
    have e1 : decide ((i : Int) < (acts.length : Nat)) = true := decide_eq_true (by omega)
    have e2 : decide ((i : Int) < 60) = true := decide_eq_true (by omega)
    have wr : IntKind.i64.wrap ((i : Int) + 1) = ((i + 1 : Nat) : Int) := by rw [wrap_i64] <;> omega
    obtain ⟨x, hx, bx, hk, hn63⟩ := ha.get (List.getElem?_eq_getElem (show i < acts.length by omega))
    generalize acts[i]'(by omega) = a at *
    have ix := idx48 (k := tk) hx
    have sn := sn96 h [.int .i64 a.what, .int .i64 a.at', .int .i64 a.n, x, .int .u64 a.keep]
    have k1 : Keep (From h.length) h (h ++ [.var 96 (.agg 95 [.int .i64 a.what, .int .i64 a.at', .int .i64 a.n, x, .int .u64 a.keep])]) := Keep.app h _ (Up.fresh h)
    have hq : (h ++ [.var 96 (.agg 95 [.int .i64 a.what, .int .i64 a.at', .int .i64 a.n, x, .int .u64 a.keep])])[h.length]? = some (.var 96 (.agg 95 [.int .i64 a.what, .int .i64 a.at', .int .i64 a.n, x, .int .u64 a.keep])) := by simp
    have T1 := T.alloc k1
    generalize h ++ [Obj.var 96 (.agg 95 [.int .i64 a.what, .int .i64 a.at', .int .i64 a.n, x, .int .u64 a.keep])] = H1 at *
    by_cases q : 200 < a.b.length
    · have e3 : decide ((200 : Int) < (a.b.length : Nat)) = true := decide_eq_true (by omega)
      obtain ⟨h', d', v', j, g1, g2, g3, g4, g5, g6, g7⟩ := ih (i + 1) n H1 d v (by omega) (by omega) (T1.forget fun _ h => h.elim) e (by omega) hf hfv
      refine ⟨h', d', v', j, fun K => ?_, g2, g3, g4, g5, g6, (k1.mono fun j hj => Nat.le_trans T.1 hj).trans g7⟩
      rw [loopK_succ, ← g1 K]
      generalize loopK (_ : (List AV → Heap → Option (AV × Heap)) → List AV → Heap → Option (AV × Heap)) n = Lp
      simp -implicitDefEqProofs only [B27_2, ↓runK_seq, runK_seq, ↓runK_cond, runK_cond, ↓runK_block, runK_block, ↓runK_loop, runK_loop, ↓runK_skip, runK_skip, ↓runK_ret, runK_ret, ↓runK_exit, runK_exit, ↓seqE_n, seqE_n, ↓seqE_e, seqE_e, ↓seqE_r, seqE_r, ↓blkE_n, blkE_n, ↓blkE_e, blkE_e, ↓blkE_r, blkE_r, ↓retK_n, retK_n, ↓retK_r, retK_r, ↓aCall_fn, aCall_fn, ↓bnd_s, bnd_s, ↓bnd2_s, bnd2_s, ↓onB_t, onB_t, ↓onB_f, onB_f, ↓onG_tt, onG_tt, ↓onG_tf, onG_tf, ↓onG_ft, onG_ft, ↓onG_ff, onG_ff, ↓onG_s, onG_s, ↓onT_t, onT_t, ↓aPick_t, aPick_t, ↓aPick_f, aPick_f, decide_true, decide_false, st_tmp, results1, results2, List.lookup_cons, List.lookup_nil, Nat.reduceBEq, Bool.false_eq_true, ↓reduceIte, BEq.rfl, Nat.reduceLT, Option.getD_some, Option.getD_none, r27_3, J27_3_0, J27_3_1, J27_3_2, hlen, bin_lss, e1, e2, r27_5, ix, load96v, alloc96, sn, r27_6, fa96_3, ld96_3 hq, bx.len, bin_gtr, e3, blkE_o, r27_4a, r27_4b, bin_add, wr]
    · have e3 : decide ((200 : Int) < (a.b.length : Nat)) = false := decide_eq_false (by omega)
      obtain ⟨y, H2, p1, ylen, yx, yrow, k2, byy, by0⟩ := in_ok bx H1 (by omega)
      have hq1 := (List.getElem?_eq_some_iff.1 hq).1
      have hq2 : H2[h.length]? = some (.var 96 (.agg 95 [.int .i64 a.what, .int .i64 a.at', .int .i64 a.n, x, .int .u64 a.keep])) := by rw [k2.2 _ (fun hh => Nat.not_le.2 hq1 hh)]; exact hq
      obtain ⟨F2, T2, hF1, hF2⟩ : ∃ F2 : Obs, Two b F2 H2 p r p' r' d v ∧ F2 h.length ∧ (a.b.length ≠ 0 → F2 H1.length) :=
        ⟨_, T1.alloc k2, .inl (.inr ⟨Nat.le_refl _, hq1⟩), fun h0 => .inr ⟨Nat.le_refl _, (List.getElem?_eq_some_iff.1 (yrow h0)).1⟩⟩
      obtain ⟨c0, c1, c2⟩ := act_ok T2 e a bx byy hF2 by0 hk (by omega) hf hfv N (by omega)
      obtain ⟨ae, e'⟩ := act_eq e a
      have dl := actD_loose d a
      have df := actD_fuse d a hf hn63
      have vf := actR_fuse v a hfv hn63
      have fin : ∀ (w : Int) (h3 : Heap), Two b F2 h3 p r p' r' (actD d a).2 (actR v a).2 → Keep (Zone b F2 H2) H2 h3 → ∃ h5 h' d' v' j,
          (∀ Kc : Ex → List AV → Heap → Option (AV × Heap), loopK (fun next => runK C0 (exFn C0 E0 (N + 3)) false 27 (N + 3) B27_1 (seqE next (blkE 3 (seqE (runK C0 (exFn C0 E0 (N + 3)) false 27 (N + 3) (.seq (.region 26 (O27 26) true) (.cond (.tmp 121) (.seq (.region 27 (O27 27) false) .ret) .skip)) Kc) Kc)))) (N + 3)
            (st 126 [(1, .vsl 95 vs tk), (7, dp p), (8, rp p'), (9, .int .i64 i), (11, .int .i64 w), (12, .int .i64 w), (13, y), (14, .int .i64 0)]) h3 = Kc .normal (st 126 [(1, .vsl 95 vs tk), (7, dp p), (8, rp p'), (9, .int .i64 i), (121, .bool false)]) h5) ∧
          (∀ K : Ex → List AV → Heap → Option (AV × Heap), loopK (fun next => runK C0 (exFn C0 E0 (N + 3)) false 27 (N + 3) B27_2 (seqE next K)) n (st 126 [(1, .vsl 95 vs tk), (7, dp p), (8, rp p'), (9, .int .i64 ((i + 1 : Nat) : Int))]) h5 =
            K (.exit 0) (st 126 [(1, .vsl 95 vs tk), (7, dp p), (8, rp p'), (9, j), (26, .bool false)]) h') ∧
          Two b (fun _ => False) h' p r p' r' d' v' ∧ DkEq d' v' ∧ d'.loose.length ≤ 60 ∧ d'.fuse < 2 ^ 63 ∧ v'.fuse < 2 ^ 63 ∧ Keep (From b) h h' := by
        intro w h3 T3 z3
        have hb := T.1
        have r3 : a.b.length ≠ 0 → h3[H1.length]? = some (.row 5 (a.b.map U8)) := fun h0 => by rw [z3.2 _ (fun hz => hz.2 (hF2 h0))]; exact yrow h0
        obtain ⟨h5, tl, T5, h4, k4, k5⟩ := tail_ok (X := .vsl 95 vs tk) (x9 := .int .i64 i) w T3 e' ylen yx (by omega) rfl r3 hF2 (by omega) N (by omega)
        obtain ⟨h', d', v', j, g1, g2, g3, g4, g5, g6, g7⟩ := ih (i + 1) n h5 _ _ (by omega) (by omega) T5 e' (by omega) df vf
        have l1 := k1.1
        have l2 := k2.1
        have l3 := z3.1
        have l4 := k4.1
        refine ⟨h5, h', d', v', j, tl, g1, g2, g3, g4, g5, g6, ?_⟩
        refine ((((k1.mono fun j hj => Nat.le_trans hb hj).trans (k2.mono fun j hj => Nat.le_trans (Nat.le_trans hb l1) hj)).trans (z3.mono fun j hj => hj.1)).trans (k4.mono fun j hj => ?_)).trans ((k5.mono fun j hj => ?_).trans g7)
        · rw [hj.1]; exact Nat.le_trans hb l1
        · unfold From at hj; show b ≤ j; omega
      have z27 : ∀ {w : Int}, a.what ≠ w → decide (a.what = w) = false := fun h => decide_eq_false h
      rcases Decidable.em (a.what = 0) with w0 | w0
      · obtain ⟨h1', h2', r1, r2, T3, z1, z2⟩ := c0 w0
        have hq3 : h1'[h.length]? = some (.var 96 (.agg 95 [.int .i64 a.what, .int .i64 a.at', .int .i64 a.n, x, .int .u64 a.keep])) := by rw [z1.2 _ (fun hz => hz.2 hF1)]; exact hq2
        obtain ⟨h5, h', d', v', j, tl, g1, rest⟩ := fin _ h2' T3 z2
        refine ⟨h', d', v', j, fun K => ?_, rest⟩
        rw [loopK_succ, ← g1 K]
        generalize loopK (_ : (List AV → Heap → Option (AV × Heap)) → List AV → Heap → Option (AV × Heap)) n = Lp
        simp -implicitDefEqProofs only [B27_2, ↓runK_seq, runK_seq, ↓runK_cond, runK_cond, ↓runK_block, runK_block, ↓runK_loop, runK_loop, ↓runK_skip, runK_skip, ↓runK_ret, runK_ret, ↓runK_exit, runK_exit, ↓seqE_n, seqE_n, ↓seqE_e, seqE_e, ↓seqE_r, seqE_r, ↓blkE_n, blkE_n, ↓blkE_e, blkE_e, ↓blkE_r, blkE_r, ↓retK_n, retK_n, ↓retK_r, retK_r, ↓aCall_fn, aCall_fn, ↓bnd_s, bnd_s, ↓bnd2_s, bnd2_s, ↓onB_t, onB_t, ↓onB_f, onB_f, ↓onG_tt, onG_tt, ↓onG_tf, onG_tf, ↓onG_ft, onG_ft, ↓onG_ff, onG_ff, ↓onG_s, onG_s, ↓onT_t, onT_t, ↓aPick_t, aPick_t, ↓aPick_f, aPick_f, decide_true, decide_false, st_tmp, results1, results2, List.lookup_cons, List.lookup_nil, Nat.reduceBEq, Bool.false_eq_true, ↓reduceIte, BEq.rfl, Nat.reduceLT, Option.getD_some, Option.getD_none, ↓r27_0, r27_0, ↓r27_1, r27_1, ↓r27_2, r27_2, ↓r27_3, r27_3, J27_3_0, J27_3_1, J27_3_2, ↓r27_4a, r27_4a, ↓r27_4b, r27_4b, ↓r27_5, r27_5, ↓r27_6, r27_6, ↓r27_7, r27_7, ↓r27_8, r27_8, ↓r27_9, r27_9, ↓r27_10, r27_10, ↓r27_11, r27_11, ↓r27_12, r27_12, ↓r27_13, r27_13, ↓r27_14, r27_14, ↓r27_15, r27_15, ↓r27_16, r27_16, ↓r27_17, r27_17, ↓r27_18, r27_18, ↓r27_19, r27_19, ↓r27_20, r27_20, ↓r27_21, r27_21, ↓r27_22a, r27_22a, ↓r27_22b, r27_22b, ↓r27_22c, r27_22c, ↓r27_23, r27_23, ↓r27_24, r27_24, ↓r27_25, r27_25, ↓r27_26, r27_26, J27_26_1, ↓r27_27, r27_27, ↓r27_28, r27_28, hlen, bin_lss, e1, e2, ix, load96v, alloc96, sn, fa96_3, ld96_3 hq, bx.len, bin_gtr, e3, lit22_0, p1, fa96_0, ld96_0 hq2, bin_eql, decide_eq_true w0, fa96_1, ld96_1 hq2, r1, ld96_1 hq3, ld96_3 hq3, ld96_3 hq2, r2, rdSame_refl]
        rw [tl]
        simp -implicitDefEqProofs only [↓runK_seq, runK_seq, ↓runK_cond, runK_cond, ↓runK_block, runK_block, ↓runK_loop, runK_loop, ↓runK_skip, runK_skip, ↓runK_ret, runK_ret, ↓runK_exit, runK_exit, ↓seqE_n, seqE_n, ↓seqE_e, seqE_e, ↓seqE_r, seqE_r, ↓blkE_n, blkE_n, ↓blkE_e, blkE_e, ↓blkE_r, blkE_r, ↓retK_n, retK_n, ↓retK_r, retK_r, ↓aCall_fn, aCall_fn, ↓bnd_s, bnd_s, ↓bnd2_s, bnd2_s, ↓onB_t, onB_t, ↓onB_f, onB_f, ↓onG_tt, onG_tt, ↓onG_tf, onG_tf, ↓onG_ft, onG_ft, ↓onG_ff, onG_ff, ↓onG_s, onG_s, ↓onT_t, onT_t, ↓aPick_t, aPick_t, ↓aPick_f, aPick_f, decide_true, decide_false, st_tmp, results1, results2, List.lookup_cons, List.lookup_nil, Nat.reduceBEq, Bool.false_eq_true, ↓reduceIte, BEq.rfl, Nat.reduceLT, Option.getD_some, Option.getD_none, r27_4a, r27_4b, bin_add, wr]
      · rcases Decidable.em (a.what = 1) with w1 | w1
        · obtain ⟨h1', h2', r1, r2, T3, z1, z2⟩ := c1 w1
          obtain ⟨h5, h', d', v', j, tl, g1, rest⟩ := fin _ h2' T3 z2
          refine ⟨h', d', v', j, fun K => ?_, rest⟩
          rw [loopK_succ, ← g1 K]
          generalize loopK (_ : (List AV → Heap → Option (AV × Heap)) → List AV → Heap → Option (AV × Heap)) n = Lp
          simp -implicitDefEqProofs only [B27_2, ↓runK_seq, runK_seq, ↓runK_cond, runK_cond, ↓runK_block, runK_block, ↓runK_loop, runK_loop, ↓runK_skip, runK_skip, ↓runK_ret, runK_ret, ↓runK_exit, runK_exit, ↓seqE_n, seqE_n, ↓seqE_e, seqE_e, ↓seqE_r, seqE_r, ↓blkE_n, blkE_n, ↓blkE_e, blkE_e, ↓blkE_r, blkE_r, ↓retK_n, retK_n, ↓retK_r, retK_r, ↓aCall_fn, aCall_fn, ↓bnd_s, bnd_s, ↓bnd2_s, bnd2_s, ↓onB_t, onB_t, ↓onB_f, onB_f, ↓onG_tt, onG_tt, ↓onG_tf, onG_tf, ↓onG_ft, onG_ft, ↓onG_ff, onG_ff, ↓onG_s, onG_s, ↓onT_t, onT_t, ↓aPick_t, aPick_t, ↓aPick_f, aPick_f, decide_true, decide_false, st_tmp, results1, results2, List.lookup_cons, List.lookup_nil, Nat.reduceBEq, Bool.false_eq_true, ↓reduceIte, BEq.rfl, Nat.reduceLT, Option.getD_some, Option.getD_none, ↓r27_0, r27_0, ↓r27_1, r27_1, ↓r27_2, r27_2, ↓r27_3, r27_3, J27_3_0, J27_3_1, J27_3_2, ↓r27_4a, r27_4a, ↓r27_4b, r27_4b, ↓r27_5, r27_5, ↓r27_6, r27_6, ↓r27_7, r27_7, ↓r27_8, r27_8, ↓r27_9, r27_9, ↓r27_10, r27_10, ↓r27_11, r27_11, ↓r27_12, r27_12, ↓r27_13, r27_13, ↓r27_14, r27_14, ↓r27_15, r27_15, ↓r27_16, r27_16, ↓r27_17, r27_17, ↓r27_18, r27_18, ↓r27_19, r27_19, ↓r27_20, r27_20, ↓r27_21, r27_21, ↓r27_22a, r27_22a, ↓r27_22b, r27_22b, ↓r27_22c, r27_22c, ↓r27_23, r27_23, ↓r27_24, r27_24, ↓r27_25, r27_25, ↓r27_26, r27_26, J27_26_1, ↓r27_27, r27_27, ↓r27_28, r27_28, hlen, bin_lss, e1, e2, ix, load96v, alloc96, sn, fa96_3, ld96_3 hq, bx.len, bin_gtr, e3, lit22_0, p1, fa96_0, ld96_0 hq2, bin_eql, z27 w0, decide_eq_true w1, r1, r2]
          rw [tl]
          simp -implicitDefEqProofs only [↓runK_seq, runK_seq, ↓runK_cond, runK_cond, ↓runK_block, runK_block, ↓runK_loop, runK_loop, ↓runK_skip, runK_skip, ↓runK_ret, runK_ret, ↓runK_exit, runK_exit, ↓seqE_n, seqE_n, ↓seqE_e, seqE_e, ↓seqE_r, seqE_r, ↓blkE_n, blkE_n, ↓blkE_e, blkE_e, ↓blkE_r, blkE_r, ↓retK_n, retK_n, ↓retK_r, retK_r, ↓aCall_fn, aCall_fn, ↓bnd_s, bnd_s, ↓bnd2_s, bnd2_s, ↓onB_t, onB_t, ↓onB_f, onB_f, ↓onG_tt, onG_tt, ↓onG_tf, onG_tf, ↓onG_ft, onG_ft, ↓onG_ff, onG_ff, ↓onG_s, onG_s, ↓onT_t, onT_t, ↓aPick_t, aPick_t, ↓aPick_f, aPick_f, decide_true, decide_false, st_tmp, results1, results2, List.lookup_cons, List.lookup_nil, Nat.reduceBEq, Bool.false_eq_true, ↓reduceIte, BEq.rfl, Nat.reduceLT, Option.getD_some, Option.getD_none, r27_4a, r27_4b, bin_add, wr]
        · rcases Decidable.em (a.what = 2) with w2 | w2
          · obtain ⟨h1', h2', r1, r2, T3, z1, z2⟩ := c2 w2
            have hq3 : h1'[h.length]? = some (.var 96 (.agg 95 [.int .i64 a.what, .int .i64 a.at', .int .i64 a.n, x, .int .u64 a.keep])) := by rw [z1.2 _ (fun hz => hz.2 hF1)]; exact hq2
            obtain ⟨h5, h', d', v', j, tl, g1, rest⟩ := fin 0 h2' T3 z2
            refine ⟨h', d', v', j, fun K => ?_, rest⟩
            rw [loopK_succ, ← g1 K]
            generalize loopK (_ : (List AV → Heap → Option (AV × Heap)) → List AV → Heap → Option (AV × Heap)) n = Lp
            simp -implicitDefEqProofs only [B27_2, ↓runK_seq, runK_seq, ↓runK_cond, runK_cond, ↓runK_block, runK_block, ↓runK_loop, runK_loop, ↓runK_skip, runK_skip, ↓runK_ret, runK_ret, ↓runK_exit, runK_exit, ↓seqE_n, seqE_n, ↓seqE_e, seqE_e, ↓seqE_r, seqE_r, ↓blkE_n, blkE_n, ↓blkE_e, blkE_e, ↓blkE_r, blkE_r, ↓retK_n, retK_n, ↓retK_r, retK_r, ↓aCall_fn, aCall_fn, ↓bnd_s, bnd_s, ↓bnd2_s, bnd2_s, ↓onB_t, onB_t, ↓onB_f, onB_f, ↓onG_tt, onG_tt, ↓onG_tf, onG_tf, ↓onG_ft, onG_ft, ↓onG_ff, onG_ff, ↓onG_s, onG_s, ↓onT_t, onT_t, ↓aPick_t, aPick_t, ↓aPick_f, aPick_f, decide_true, decide_false, st_tmp, results1, results2, List.lookup_cons, List.lookup_nil, Nat.reduceBEq, Bool.false_eq_true, ↓reduceIte, BEq.rfl, Nat.reduceLT, Option.getD_some, Option.getD_none, ↓r27_0, r27_0, ↓r27_1, r27_1, ↓r27_2, r27_2, ↓r27_3, r27_3, J27_3_0, J27_3_1, J27_3_2, ↓r27_4a, r27_4a, ↓r27_4b, r27_4b, ↓r27_5, r27_5, ↓r27_6, r27_6, ↓r27_7, r27_7, ↓r27_8, r27_8, ↓r27_9, r27_9, ↓r27_10, r27_10, ↓r27_11, r27_11, ↓r27_12, r27_12, ↓r27_13, r27_13, ↓r27_14, r27_14, ↓r27_15, r27_15, ↓r27_16, r27_16, ↓r27_17, r27_17, ↓r27_18, r27_18, ↓r27_19, r27_19, ↓r27_20, r27_20, ↓r27_21, r27_21, ↓r27_22a, r27_22a, ↓r27_22b, r27_22b, ↓r27_22c, r27_22c, ↓r27_23, r27_23, ↓r27_24, r27_24, ↓r27_25, r27_25, ↓r27_26, r27_26, J27_26_1, ↓r27_27, r27_27, ↓r27_28, r27_28, hlen, bin_lss, e1, e2, ix, load96v, alloc96, sn, fa96_3, ld96_3 hq, bx.len, bin_gtr, e3, lit22_0, p1, fa96_0, ld96_0 hq2, bin_eql, z27 w0, z27 w1, decide_eq_true w2, fa96_1, fa96_2, fa96_4, ld96_1 hq2, ld96_2 hq2, ld96_4 hq2, r1, ld96_1 hq3, ld96_2 hq3, ld96_4 hq3, r2]
            rw [tl]
            simp -implicitDefEqProofs only [↓runK_seq, runK_seq, ↓runK_cond, runK_cond, ↓runK_block, runK_block, ↓runK_loop, runK_loop, ↓runK_skip, runK_skip, ↓runK_ret, runK_ret, ↓runK_exit, runK_exit, ↓seqE_n, seqE_n, ↓seqE_e, seqE_e, ↓seqE_r, seqE_r, ↓blkE_n, blkE_n, ↓blkE_e, blkE_e, ↓blkE_r, blkE_r, ↓retK_n, retK_n, ↓retK_r, retK_r, ↓aCall_fn, aCall_fn, ↓bnd_s, bnd_s, ↓bnd2_s, bnd2_s, ↓onB_t, onB_t, ↓onB_f, onB_f, ↓onG_tt, onG_tt, ↓onG_tf, onG_tf, ↓onG_ft, onG_ft, ↓onG_ff, onG_ff, ↓onG_s, onG_s, ↓onT_t, onT_t, ↓aPick_t, aPick_t, ↓aPick_f, aPick_f, decide_true, decide_false, st_tmp, results1, results2, List.lookup_cons, List.lookup_nil, Nat.reduceBEq, Bool.false_eq_true, ↓reduceIte, BEq.rfl, Nat.reduceLT, Option.getD_some, Option.getD_none, r27_4a, r27_4b, bin_add, wr]
          · rcases Decidable.em (a.what = 3) with w3 | w3
            · obtain ⟨h1', h2', r1, s1, z1, z2, c3, c4⟩ := act3_ok T2 a w3 (N + 2)
              have hq3 : h1'[h.length]? = some (.var 96 (.agg 95 [.int .i64 a.what, .int .i64 a.at', .int .i64 a.n, x, .int .u64 a.keep])) := by rw [z1.2 _ (fun hz => hz.2 hF1)]; exact hq2
              have hq4 : h2'[h.length]? = some (.var 96 (.agg 95 [.int .i64 a.what, .int .i64 a.at', .int .i64 a.n, x, .int .u64 a.keep])) := by rw [z2.2 _ (fun hz => hz.2 hF1)]; exact hq2
              by_cases hn : a.n < 0
              · obtain ⟨h3', s2, z3, T3⟩ := c4 hn
                obtain ⟨h5, h', d', v', j, tl, g1, rest⟩ := fin 0 h3' T3 z3
                refine ⟨h', d', v', j, fun K => ?_, rest⟩
                rw [loopK_succ, ← g1 K]
                generalize loopK (_ : (List AV → Heap → Option (AV × Heap)) → List AV → Heap → Option (AV × Heap)) n = Lp
                simp -implicitDefEqProofs only [B27_2, ↓runK_seq, runK_seq, ↓runK_cond, runK_cond, ↓runK_block, runK_block, ↓runK_loop, runK_loop, ↓runK_skip, runK_skip, ↓runK_ret, runK_ret, ↓runK_exit, runK_exit, ↓seqE_n, seqE_n, ↓seqE_e, seqE_e, ↓seqE_r, seqE_r, ↓blkE_n, blkE_n, ↓blkE_e, blkE_e, ↓blkE_r, blkE_r, ↓retK_n, retK_n, ↓retK_r, retK_r, ↓aCall_fn, aCall_fn, ↓bnd_s, bnd_s, ↓bnd2_s, bnd2_s, ↓onB_t, onB_t, ↓onB_f, onB_f, ↓onG_tt, onG_tt, ↓onG_tf, onG_tf, ↓onG_ft, onG_ft, ↓onG_ff, onG_ff, ↓onG_s, onG_s, ↓onT_t, onT_t, ↓aPick_t, aPick_t, ↓aPick_f, aPick_f, decide_true, decide_false, st_tmp, results1, results2, List.lookup_cons, List.lookup_nil, Nat.reduceBEq, Bool.false_eq_true, ↓reduceIte, BEq.rfl, Nat.reduceLT, Option.getD_some, Option.getD_none, ↓r27_0, r27_0, ↓r27_1, r27_1, ↓r27_2, r27_2, ↓r27_3, r27_3, J27_3_0, J27_3_1, J27_3_2, ↓r27_4a, r27_4a, ↓r27_4b, r27_4b, ↓r27_5, r27_5, ↓r27_6, r27_6, ↓r27_7, r27_7, ↓r27_8, r27_8, ↓r27_9, r27_9, ↓r27_10, r27_10, ↓r27_11, r27_11, ↓r27_12, r27_12, ↓r27_13, r27_13, ↓r27_14, r27_14, ↓r27_15, r27_15, ↓r27_16, r27_16, ↓r27_17, r27_17, ↓r27_18, r27_18, ↓r27_19, r27_19, ↓r27_20, r27_20, ↓r27_21, r27_21, ↓r27_22a, r27_22a, ↓r27_22b, r27_22b, ↓r27_22c, r27_22c, ↓r27_23, r27_23, ↓r27_24, r27_24, ↓r27_25, r27_25, ↓r27_26, r27_26, J27_26_1, ↓r27_27, r27_27, ↓r27_28, r27_28, hlen, bin_lss, e1, e2, ix, load96v, alloc96, sn, fa96_3, ld96_3 hq, bx.len, bin_gtr, e3, lit22_0, p1, fa96_0, ld96_0 hq2, bin_eql, z27 w0, z27 w1, z27 w2, decide_eq_true w3, fa96_2, ld96_2 hq2, r1, ld96_2 hq3, rp_chk, rpf2, s1, ld96_2 hq4, decide_eq_true hn, s2]
                rw [tl]
                simp -implicitDefEqProofs only [↓runK_seq, runK_seq, ↓runK_cond, runK_cond, ↓runK_block, runK_block, ↓runK_loop, runK_loop, ↓runK_skip, runK_skip, ↓runK_ret, runK_ret, ↓runK_exit, runK_exit, ↓seqE_n, seqE_n, ↓seqE_e, seqE_e, ↓seqE_r, seqE_r, ↓blkE_n, blkE_n, ↓blkE_e, blkE_e, ↓blkE_r, blkE_r, ↓retK_n, retK_n, ↓retK_r, retK_r, ↓aCall_fn, aCall_fn, ↓bnd_s, bnd_s, ↓bnd2_s, bnd2_s, ↓onB_t, onB_t, ↓onB_f, onB_f, ↓onG_tt, onG_tt, ↓onG_tf, onG_tf, ↓onG_ft, onG_ft, ↓onG_ff, onG_ff, ↓onG_s, onG_s, ↓onT_t, onT_t, ↓aPick_t, aPick_t, ↓aPick_f, aPick_f, decide_true, decide_false, st_tmp, results1, results2, List.lookup_cons, List.lookup_nil, Nat.reduceBEq, Bool.false_eq_true, ↓reduceIte, BEq.rfl, Nat.reduceLT, Option.getD_some, Option.getD_none, r27_4a, r27_4b, bin_add, wr]
              · obtain ⟨h5, h', d', v', j, tl, g1, rest⟩ := fin 0 h2' (c3 hn) z2
                refine ⟨h', d', v', j, fun K => ?_, rest⟩
                rw [loopK_succ, ← g1 K]
                generalize loopK (_ : (List AV → Heap → Option (AV × Heap)) → List AV → Heap → Option (AV × Heap)) n = Lp
                simp -implicitDefEqProofs only [B27_2, ↓runK_seq, runK_seq, ↓runK_cond, runK_cond, ↓runK_block, runK_block, ↓runK_loop, runK_loop, ↓runK_skip, runK_skip, ↓runK_ret, runK_ret, ↓runK_exit, runK_exit, ↓seqE_n, seqE_n, ↓seqE_e, seqE_e, ↓seqE_r, seqE_r, ↓blkE_n, blkE_n, ↓blkE_e, blkE_e, ↓blkE_r, blkE_r, ↓retK_n, retK_n, ↓retK_r, retK_r, ↓aCall_fn, aCall_fn, ↓bnd_s, bnd_s, ↓bnd2_s, bnd2_s, ↓onB_t, onB_t, ↓onB_f, onB_f, ↓onG_tt, onG_tt, ↓onG_tf, onG_tf, ↓onG_ft, onG_ft, ↓onG_ff, onG_ff, ↓onG_s, onG_s, ↓onT_t, onT_t, ↓aPick_t, aPick_t, ↓aPick_f, aPick_f, decide_true, decide_false, st_tmp, results1, results2, List.lookup_cons, List.lookup_nil, Nat.reduceBEq, Bool.false_eq_true, ↓reduceIte, BEq.rfl, Nat.reduceLT, Option.getD_some, Option.getD_none, ↓r27_0, r27_0, ↓r27_1, r27_1, ↓r27_2, r27_2, ↓r27_3, r27_3, J27_3_0, J27_3_1, J27_3_2, ↓r27_4a, r27_4a, ↓r27_4b, r27_4b, ↓r27_5, r27_5, ↓r27_6, r27_6, ↓r27_7, r27_7, ↓r27_8, r27_8, ↓r27_9, r27_9, ↓r27_10, r27_10, ↓r27_11, r27_11, ↓r27_12, r27_12, ↓r27_13, r27_13, ↓r27_14, r27_14, ↓r27_15, r27_15, ↓r27_16, r27_16, ↓r27_17, r27_17, ↓r27_18, r27_18, ↓r27_19, r27_19, ↓r27_20, r27_20, ↓r27_21, r27_21, ↓r27_22a, r27_22a, ↓r27_22b, r27_22b, ↓r27_22c, r27_22c, ↓r27_23, r27_23, ↓r27_24, r27_24, ↓r27_25, r27_25, ↓r27_26, r27_26, J27_26_1, ↓r27_27, r27_27, ↓r27_28, r27_28, hlen, bin_lss, e1, e2, ix, load96v, alloc96, sn, fa96_3, ld96_3 hq, bx.len, bin_gtr, e3, lit22_0, p1, fa96_0, ld96_0 hq2, bin_eql, z27 w0, z27 w1, z27 w2, decide_eq_true w3, fa96_2, ld96_2 hq2, r1, ld96_2 hq3, rp_chk, rpf2, s1, ld96_2 hq4, decide_eq_false hn]
                rw [tl]
                simp -implicitDefEqProofs only [↓runK_seq, runK_seq, ↓runK_cond, runK_cond, ↓runK_block, runK_block, ↓runK_loop, runK_loop, ↓runK_skip, runK_skip, ↓runK_ret, runK_ret, ↓runK_exit, runK_exit, ↓seqE_n, seqE_n, ↓seqE_e, seqE_e, ↓seqE_r, seqE_r, ↓blkE_n, blkE_n, ↓blkE_e, blkE_e, ↓blkE_r, blkE_r, ↓retK_n, retK_n, ↓retK_r, retK_r, ↓aCall_fn, aCall_fn, ↓bnd_s, bnd_s, ↓bnd2_s, bnd2_s, ↓onB_t, onB_t, ↓onB_f, onB_f, ↓onG_tt, onG_tt, ↓onG_tf, onG_tf, ↓onG_ft, onG_ft, ↓onG_ff, onG_ff, ↓onG_s, onG_s, ↓onT_t, onT_t, ↓aPick_t, aPick_t, ↓aPick_f, aPick_f, decide_true, decide_false, st_tmp, results1, results2, List.lookup_cons, List.lookup_nil, Nat.reduceBEq, Bool.false_eq_true, ↓reduceIte, BEq.rfl, Nat.reduceLT, Option.getD_some, Option.getD_none, r27_4a, r27_4b, bin_add, wr]
            · have a1 : actD d a = (0, d) := by unfold actD; rw [if_neg w0, if_neg w1, if_neg w2, if_neg w3]
              have a2 : actR v a = (0, v) := by unfold actR; rw [if_neg w0, if_neg w1, if_neg w2, if_neg w3]
              obtain ⟨h5, h', d', v', j, tl, g1, rest⟩ := fin 0 H2 (by rw [a1, a2]; exact T2) (Keep.refl _ _)
              refine ⟨h', d', v', j, fun K => ?_, rest⟩
              rw [loopK_succ, ← g1 K]
              generalize loopK (_ : (List AV → Heap → Option (AV × Heap)) → List AV → Heap → Option (AV × Heap)) n = Lp
              simp -implicitDefEqProofs only [B27_2, ↓runK_seq, runK_seq, ↓runK_cond, runK_cond, ↓runK_block, runK_block, ↓runK_loop, runK_loop, ↓runK_skip, runK_skip, ↓runK_ret, runK_ret, ↓runK_exit, runK_exit, ↓seqE_n, seqE_n, ↓seqE_e, seqE_e, ↓seqE_r, seqE_r, ↓blkE_n, blkE_n, ↓blkE_e, blkE_e, ↓blkE_r, blkE_r, ↓retK_n, retK_n, ↓retK_r, retK_r, ↓aCall_fn, aCall_fn, ↓bnd_s, bnd_s, ↓bnd2_s, bnd2_s, ↓onB_t, onB_t, ↓onB_f, onB_f, ↓onG_tt, onG_tt, ↓onG_tf, onG_tf, ↓onG_ft, onG_ft, ↓onG_ff, onG_ff, ↓onG_s, onG_s, ↓onT_t, onT_t, ↓aPick_t, aPick_t, ↓aPick_f, aPick_f, decide_true, decide_false, st_tmp, results1, results2, List.lookup_cons, List.lookup_nil, Nat.reduceBEq, Bool.false_eq_true, ↓reduceIte, BEq.rfl, Nat.reduceLT, Option.getD_some, Option.getD_none, ↓r27_0, r27_0, ↓r27_1, r27_1, ↓r27_2, r27_2, ↓r27_3, r27_3, J27_3_0, J27_3_1, J27_3_2, ↓r27_4a, r27_4a, ↓r27_4b, r27_4b, ↓r27_5, r27_5, ↓r27_6, r27_6, ↓r27_7, r27_7, ↓r27_8, r27_8, ↓r27_9, r27_9, ↓r27_10, r27_10, ↓r27_11, r27_11, ↓r27_12, r27_12, ↓r27_13, r27_13, ↓r27_14, r27_14, ↓r27_15, r27_15, ↓r27_16, r27_16, ↓r27_17, r27_17, ↓r27_18, r27_18, ↓r27_19, r27_19, ↓r27_20, r27_20, ↓r27_21, r27_21, ↓r27_22a, r27_22a, ↓r27_22b, r27_22b, ↓r27_22c, r27_22c, ↓r27_23, r27_23, ↓r27_24, r27_24, ↓r27_25, r27_25, ↓r27_26, r27_26, J27_26_1, ↓r27_27, r27_27, ↓r27_28, r27_28, hlen, bin_lss, e1, e2, ix, load96v, alloc96, sn, fa96_3, ld96_3 hq, bx.len, bin_gtr, e3, lit22_0, p1, fa96_0, ld96_0 hq2, bin_eql, z27 w0, z27 w1, z27 w2, z27 w3]
              rw [tl]
              simp -implicitDefEqProofs only [↓runK_seq, runK_seq, ↓runK_cond, runK_cond, ↓runK_block, runK_block, ↓runK_loop, runK_loop, ↓runK_skip, runK_skip, ↓runK_ret, runK_ret, ↓runK_exit, runK_exit, ↓seqE_n, seqE_n, ↓seqE_e, seqE_e, ↓seqE_r, seqE_r, ↓blkE_n, blkE_n, ↓blkE_e, blkE_e, ↓blkE_r, blkE_r, ↓retK_n, retK_n, ↓retK_r, retK_r, ↓aCall_fn, aCall_fn, ↓bnd_s, bnd_s, ↓bnd2_s, bnd2_s, ↓onB_t, onB_t, ↓onB_f, onB_f, ↓onG_tt, onG_tt, ↓onG_tf, onG_tf, ↓onG_ft, onG_ft, ↓onG_ff, onG_ff, ↓onG_s, onG_s, ↓onT_t, onT_t, ↓aPick_t, aPick_t, ↓aPick_f, aPick_f, decide_true, decide_false, st_tmp, results1, results2, List.lookup_cons, List.lookup_nil, Nat.reduceBEq, Bool.false_eq_true, ↓reduceIte, BEq.rfl, Nat.reduceLT, Option.getD_some, Option.getD_none, r27_4a, r27_4b, bin_add, wr]
end Go.Ax

/- both: its contract. -/
namespace Go.Ax
open Go Go.Proofs

theorem both_ok (nn : Int) {vs : List AV} {acts : List Ac} {tk : Tok} (ha : AcsL vs acts) (hL : acts.length < 2 ^ 63) (h : Heap) (k : Nat) (hk : 2000 < k) :
    ∃ h' d v p r p' r', exFn C0 E0 (k + 1) false 27 [.int .i64 nn, .vsl 95 vs tk] h = some (.tuple [dp p, rp p', .bool true], h') ∧ Two h.length (fun _ => False) h' p r p' r' d v ∧ DkEq d v ∧ d.loose.length ≤ 60 ∧ d.fuse < 2 ^ 63 ∧ v.fuse < 2 ^ 63 ∧ Keep (From h.length) h h' := by
  obtain ⟨k, rfl⟩ : ∃ j, k = j + 3 := ⟨k - 3, by omega⟩
  obtain ⟨p, r, h1, n1, D1, k1⟩ := new_ok nn h false (k + 2)
  obtain ⟨p', r', h2, n2, R2, k2⟩ := rnew_ok nn h1 (k + 2) (by omega)
  have T := two_new D1 R2 k1.1 k2
  obtain ⟨h', d, v, j, g1, g2, g3, g4, g5, g6, g7⟩ := both_loop (tk := tk) ha hL k (by omega) (min acts.length 60) 0 (k + 3) h2 _ _ (by omega) (by omega) T (DkEq.refl _) (by simp [Dk.new]) (by simp [Dk.new]) (by simp [Dk.new])
  rw [show ((0 : Nat) : Int) = 0 from rfl] at g1
  refine ⟨h', d, v, p, r, p', r', exFn_of e27 ?_, g2, g3, g4, g5, g6, (k1.fresh k2 (Up.fresh h)).trans g7⟩
  rw [fnK, show ([.int .i64 nn, .vsl 95 vs tk] ++ List.replicate (126 - [AV.int .i64 nn, .vsl 95 vs tk].length) AV.undef) = st 126 [(0, .int .i64 nn), (1, .vsl 95 vs tk)] from rfl, s27]
  simp -implicitDefEqProofs only [↓runK_seq, runK_seq, ↓runK_cond, runK_cond, ↓runK_block, runK_block, ↓runK_loop, runK_loop, ↓runK_skip, runK_skip, ↓runK_ret, runK_ret, ↓runK_exit, runK_exit, ↓seqE_n, seqE_n, ↓seqE_e, seqE_e, ↓seqE_r, seqE_r, ↓blkE_n, blkE_n, ↓blkE_e, blkE_e, ↓blkE_r, blkE_r, ↓retK_n, retK_n, ↓retK_r, retK_r, ↓aCall_fn, aCall_fn, ↓bnd_s, bnd_s, ↓bnd2_s, bnd2_s, ↓onB_t, onB_t, ↓onB_f, onB_f, ↓onG_tt, onG_tt, ↓onG_tf, onG_tf, ↓onG_ft, onG_ft, ↓onG_ff, onG_ff, ↓onG_s, onG_s, ↓onT_t, onT_t, ↓aPick_t, aPick_t, ↓aPick_f, aPick_f, decide_true, decide_false, st_tmp, results1, results2, List.lookup_cons, List.lookup_nil, Nat.reduceBEq, Bool.false_eq_true, ↓reduceIte, BEq.rfl, Nat.reduceLT, Option.getD_some, Option.getD_none, r27_0, r27_1, r27_2, n1, n2]
  rw [g1]
  simp -implicitDefEqProofs only [↓runK_seq, runK_seq, ↓runK_cond, runK_cond, ↓runK_block, runK_block, ↓runK_loop, runK_loop, ↓runK_skip, runK_skip, ↓runK_ret, runK_ret, ↓runK_exit, runK_exit, ↓seqE_n, seqE_n, ↓seqE_e, seqE_e, ↓seqE_r, seqE_r, ↓blkE_n, blkE_n, ↓blkE_e, blkE_e, ↓blkE_r, blkE_r, ↓retK_n, retK_n, ↓retK_r, retK_r, ↓aCall_fn, aCall_fn, ↓bnd_s, bnd_s, ↓bnd2_s, bnd2_s, ↓onB_t, onB_t, ↓onB_f, onB_f, ↓onG_tt, onG_tt, ↓onG_tf, onG_tf, ↓onG_ft, onG_ft, ↓onG_ff, onG_ff, ↓onG_s, onG_s, ↓onT_t, onT_t, ↓aPick_t, aPick_t, ↓aPick_f, aPick_f, decide_true, decide_false, st_tmp, results1, results2, List.lookup_cons, List.lookup_nil, Nat.reduceBEq, Bool.false_eq_true, ↓reduceIte, BEq.rfl, Nat.reduceLT, Option.getD_some, Option.getD_none, r27_28, results, List.map_cons, List.map_nil, st_getD]
end Go.Ax
