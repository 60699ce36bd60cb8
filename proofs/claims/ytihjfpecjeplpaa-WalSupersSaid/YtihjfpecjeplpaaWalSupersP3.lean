/- An interpreter of Go code over a small abstract heap, proved sound against the model, and what the functions that WalSupers reaches compute (part 3); each theorem for the inputs that it names. -/
import Derived.Test.YtihjfpecjeplpaaWalSupersP2
set_option linter.unusedSimpArgs false
set_option linter.unusedVariables false

namespace Go.Ax
open Go Go.Proofs
structure Dk where
  lasts : List (List UInt8)
  loose : List (Nat × List UInt8)
  fuse : Int
  down : Bool
def cellAV (b : List UInt8) : AV := .agg 88 (b.map U8)
def writeAV (w : Nat × List UInt8) : AV := .agg 90 [.int .i64 w.1, cellAV w.2]
def lastsAV (r n : Nat) : AV := if n = 0 then .vsl 88 [] .none else .msl r [] 88 0 n
def dv (r n : Nat) (x : AV) (f : Int) (w : Bool) : Obj := .var 84 (.agg 83 [lastsAV r n, x, .int .i64 f, .bool w])
structure Dsk (S : Obs) (h : Heap) (p r : Nat) (d : Dk) : Prop where
  hp : S p
  hr : d.lasts ≠ [] → S r
  var : ∃ x, h[p]? = some (dv r d.lasts.length x d.fuse d.down) ∧ Ap 90 S h x (d.loose.map writeAV)
  row : d.lasts ≠ [] → h[r]? = some (.row 88 (d.lasts.map cellAV))
  cells : ∀ b ∈ d.lasts, b.length = 64
  loose : ∀ w ∈ d.loose, w.1 < d.lasts.length ∧ w.2.length = 64
  few : d.lasts.length ≤ 1024
theorem Dsk.keep {S U : Obs} {h h' : Heap} {p r : Nat} {d : Dk} (D : Dsk S h p r d) (k : Keep U h h') (hd : ∀ i, i < h.length → S i → ¬ U i) : Dsk S h' p r d := by
  obtain ⟨x, hx, ha⟩ := D.var
  refine ⟨D.hp, D.hr, ⟨x, ?_, ha.keep k hd⟩, fun hne => ?_, D.cells, D.loose, D.few⟩
  · rw [k.2 p (hd p (List.getElem?_eq_some_iff.1 hx).1 D.hp)]; exact hx
  · have hr := D.row hne
    rw [k.2 r (hd r (List.getElem?_eq_some_iff.1 hr).1 (D.hr hne))]; exact hr
theorem Dsk.fresh {S : Obs} {h h' : Heap} {p r : Nat} {d : Dk} (D : Dsk S h p r d) (k : Keep (From h.length) h h') : Dsk S h' p r d := D.keep k fun _ hi _ hj => Nat.not_le.2 hi hj
theorem Dsk.mono {S U : Obs} {h : Heap} {p r : Nat} {d : Dk} (D : Dsk S h p r d) (hs : ∀ i, S i → U i) : Dsk U h p r d := by
  obtain ⟨x, hx, ha⟩ := D.var
  exact ⟨hs _ D.hp, fun e => hs _ (D.hr e), ⟨x, hx, ha.mono hs⟩, D.row, D.cells, D.loose, D.few⟩
theorem load_fld {h : Heap} {p t u i ty u' : Nat} {fs : List AV} {v : AV} (hp : h[p]? = some (.var t (.agg u fs))) (hv : fs[i]? = some v) (hu : u' = Tab.und tab ty) : aLoad tab ty (.ref p [i] u') h = some v := by
  simp [aLoad, hu, hp, objGet, getP, hv]
theorem store_fld {h : Heap} {p t u i ty u' : Nat} {fs : List AV} {v x : AV} (hp : h[p]? = some (.var t (.agg u fs))) (hv : fs[i]? = some v) (hu : u' = Tab.und tab ty) (hf : fits tab ty x = true) :
    aStore tab ty (.ref p [i] u') x h = some (h.set p (.var t (.agg u (fs.set i x)))) := by
  simp [aStore, hu, hf, hp, objSet, setP, hv]
theorem load_var {h : Heap} {p t ty u' : Nat} {v : AV} (hp : h[p]? = some (.var t v)) (hu : u' = Tab.und tab ty) : aLoad tab ty (.ref p [] u') h = some v := by
  simp [aLoad, hu, hp, objGet, getP]
theorem store_var {h : Heap} {p t ty u' : Nat} {v x : AV} (hp : h[p]? = some (.var t v)) (hu : u' = Tab.und tab ty) (hf : fits tab ty x = true) :
    aStore tab ty (.ref p [] u') x h = some (h.set p (.var t x)) := by
  simp [aStore, hu, hf, hp, objSet, setP]
theorem store_new {h : Heap} {t ty u' : Nat} {v x : AV} (hu : u' = Tab.und tab ty) (hf : fits tab ty x = true) :
    aStore tab ty (.ref h.length [] u') x (h ++ [.var t v]) = some (h ++ [.var t x]) := by
  rw [store_var (t := t) (v := v) (by simp) hu hf]
  simp
abbrev dp (p : Nat) : AV := .ref p [] 83
section fields
variable {h : Heap} {p r n : Nat} {x : AV} {f : Int} {w : Bool} (hp : h[p]? = some (dv r n x f w))
include hp
theorem dld0 : aLoad tab 81 (.ref p [0] 81) h = some (lastsAV r n) := load_fld (i := 0) hp rfl (by simp)
theorem dld1 : aLoad tab 82 (.ref p [1] 82) h = some x := load_fld (i := 1) hp rfl (by simp)
theorem dld2 : aLoad tab 3 (.ref p [2] 3) h = some (.int .i64 f) := load_fld (i := 2) hp rfl (by simp)
theorem dld3 : aLoad tab 4 (.ref p [3] 4) h = some (.bool w) := load_fld (i := 3) hp rfl (by simp)
theorem dst1 {y : AV} (hf : fits tab 82 y = true) : aStore tab 82 (.ref p [1] 82) y h = some (h.set p (dv r n y f w)) := store_fld (i := 1) hp rfl (by simp) hf
theorem dst2 (g : Int) : aStore tab 3 (.ref p [2] 3) (.int .i64 g) h = some (h.set p (dv r n x g w)) := store_fld (i := 2) hp rfl (by simp) rfl
theorem dst3 (g : Bool) : aStore tab 4 (.ref p [3] 4) (.bool g) h = some (h.set p (dv r n x f g)) := store_fld (i := 3) hp rfl (by simp) rfl
end fields
theorem dp_nil (p : Nat) : aBinC tab .eql 25 (dp p) .nilp true = some (.bool false) := by simp [aBinC, aBin, aEq]
theorem dp_chk (p : Nat) : aNil (dp p) = some (dp p) := rfl
theorem dpf0 (p : Nat) : aFieldAddr tab 84 (dp p) 0 = some (.ref p [0] 81) := by simp [aFieldAddr]
theorem dpf1 (p : Nat) : aFieldAddr tab 84 (dp p) 1 = some (.ref p [1] 82) := by simp [aFieldAddr]
theorem dpf2 (p : Nat) : aFieldAddr tab 84 (dp p) 2 = some (.ref p [2] 3) := by simp [aFieldAddr]
theorem dpf3 (p : Nat) : aFieldAddr tab 84 (dp p) 3 = some (.ref p [3] 4) := by simp [aFieldAddr]
theorem len81 (r n : Nat) : aLen tab 81 (lastsAV r n) = some (.int .i64 n) := by
  unfold lastsAV
  split
  · rename_i h; subst h; simp [aLen]
  · simp [aLen]
theorem len_ok {S : Obs} {p r : Nat} {h : Heap} {d : Dk} (D : Dsk S h p r d) (md : Bool) (k : Nat) : exFn C0 E0 (k + 1) md 46 [dp p] h = some (.int .i64 d.lasts.length, h) := by
  obtain ⟨x, hx, -⟩ := D.var
  refine exFn_of e46 ?_
  rw [fnK, show ([dp p] ++ List.replicate (10 - [dp p].length) AV.undef) = st 10 [(0, dp p)] from rfl, s46]
  simp -implicitDefEqProofs only [↓runK_seq, runK_seq, ↓runK_cond, runK_cond, ↓runK_block, runK_block, ↓runK_loop, runK_loop, ↓runK_skip, runK_skip, ↓runK_ret, runK_ret, ↓runK_exit, runK_exit, ↓seqE_n, seqE_n, ↓seqE_e, seqE_e, ↓seqE_r, seqE_r, ↓blkE_n, blkE_n, ↓blkE_e, blkE_e, ↓blkE_r, blkE_r, ↓retK_n, retK_n, ↓retK_r, retK_r, ↓aCall_fn, aCall_fn, ↓bnd_s, bnd_s, ↓bnd2_s, bnd2_s, ↓onB_t, onB_t, ↓onB_f, onB_f, ↓onG_tt, onG_tt, ↓onG_tf, onG_tf, ↓onG_ft, onG_ft, ↓onG_ff, onG_ff, ↓onG_s, onG_s, ↓onT_t, onT_t, ↓aPick_t, aPick_t, ↓aPick_f, aPick_f, decide_true, decide_false, st_tmp, results1, results2, List.lookup_cons, List.lookup_nil, Nat.reduceBEq, Bool.false_eq_true, ↓reduceIte, BEq.rfl, Nat.reduceLT, Option.getD_some, Option.getD_none, ↓r46_0, r46_0, ↓r46_1, r46_1, ↓r46_2, r46_2, ↓r46_3, r46_3, dp_nil, dp_chk, dpf0, dld0 hx, len81]
def Dk.has (d : Dk) (i : Int) : Prop := 0 ≤ i ∧ i < d.lasts.length
instance (d : Dk) (i : Int) : Decidable (d.has i) := by unfold Dk.has; infer_instance
theorem there_ok {S : Obs} {p r : Nat} {h : Heap} {d : Dk} (D : Dsk S h p r d) (i : Int) (md : Bool) (k : Nat) : exFn C0 E0 (k + 2) md 49 [dp p, .int .i64 i] h = some (.bool (decide (d.has i)), h) := by
  refine exFn_of e49 ?_
  rw [fnK, show ([dp p, .int .i64 i] ++ List.replicate (13 - [dp p, .int .i64 i].length) AV.undef) = st 13 [(0, dp p), (1, .int .i64 i)] from rfl, s49]
  by_cases h0 : 0 ≤ i
  · have e : decide (0 ≤ i) = true := by simpa using h0
    have e2 : decide (d.has i) = decide (i < d.lasts.length) := by simp [Dk.has, h0]
    simp -implicitDefEqProofs only [↓runK_seq, runK_seq, ↓runK_cond, runK_cond, ↓runK_block, runK_block, ↓runK_loop, runK_loop, ↓runK_skip, runK_skip, ↓runK_ret, runK_ret, ↓runK_exit, runK_exit, ↓seqE_n, seqE_n, ↓seqE_e, seqE_e, ↓seqE_r, seqE_r, ↓blkE_n, blkE_n, ↓blkE_e, blkE_e, ↓blkE_r, blkE_r, ↓retK_n, retK_n, ↓retK_r, retK_r, ↓aCall_fn, aCall_fn, ↓bnd_s, bnd_s, ↓bnd2_s, bnd2_s, ↓onB_t, onB_t, ↓onB_f, onB_f, ↓onG_tt, onG_tt, ↓onG_tf, onG_tf, ↓onG_ft, onG_ft, ↓onG_ff, onG_ff, ↓onG_s, onG_s, ↓onT_t, onT_t, ↓aPick_t, aPick_t, ↓aPick_f, aPick_f, decide_true, decide_false, st_tmp, results1, results2, List.lookup_cons, List.lookup_nil, Nat.reduceBEq, Bool.false_eq_true, ↓reduceIte, BEq.rfl, Nat.reduceLT, Option.getD_some, Option.getD_none, ↓r49_0, r49_0, ↓r49_1, r49_1, J49_1_0, J49_1_1, J49_1_2, bin_geq, e, len_ok D, bin_lss, e2]
  · have e : decide (0 ≤ i) = false := by simpa using h0
    have e2 : decide (d.has i) = false := by simp [Dk.has, h0]
    simp -implicitDefEqProofs only [↓runK_seq, runK_seq, ↓runK_cond, runK_cond, ↓runK_block, runK_block, ↓runK_loop, runK_loop, ↓runK_skip, runK_skip, ↓runK_ret, runK_ret, ↓runK_exit, runK_exit, ↓seqE_n, seqE_n, ↓seqE_e, seqE_e, ↓seqE_r, seqE_r, ↓blkE_n, blkE_n, ↓blkE_e, blkE_e, ↓blkE_r, blkE_r, ↓retK_n, retK_n, ↓retK_r, retK_r, ↓aCall_fn, aCall_fn, ↓bnd_s, bnd_s, ↓bnd2_s, bnd2_s, ↓onB_t, onB_t, ↓onB_f, onB_f, ↓onG_tt, onG_tt, ↓onG_tf, onG_tf, ↓onG_ft, onG_ft, ↓onG_ff, onG_ff, ↓onG_s, onG_s, ↓onT_t, onT_t, ↓aPick_t, aPick_t, ↓aPick_f, aPick_f, decide_true, decide_false, st_tmp, results1, results2, List.lookup_cons, List.lookup_nil, Nat.reduceBEq, Bool.false_eq_true, ↓reduceIte, BEq.rfl, Nat.reduceLT, Option.getD_some, Option.getD_none, ↓r49_0, r49_0, ↓r49_1, r49_1, J49_1_0, J49_1_1, J49_1_2, bin_geq, e, len_ok D, bin_lss, e2]
theorem Dsk.upd {S : Obs} {p r : Nat} {h : Heap} {d : Dk} (D : Dsk S h p r d) {x : AV} (hx : h[p]? = some (dv r d.lasts.length x d.fuse d.down)) (ha : Ap 90 S h x (d.loose.map writeAV)) (f : Int) (w : Bool) :
    Dsk S (h.set p (dv r d.lasts.length x f w)) p r { d with fuse := f, down := w } := by
  have hlt : p < h.length := (List.getElem?_eq_some_iff.1 hx).1
  refine ⟨D.hp, D.hr, ⟨x, by simp [hlt], ha.at hx (by simp [dv]) fun i _ hi => List.getElem?_set_ne (by omega)⟩, fun hne => ?_, D.cells, D.loose, D.few⟩
  have hr := D.row hne
  rw [List.getElem?_set_ne]
  · exact hr
  · intro e
    subst e
    rw [hx] at hr
    cases hr
def Dk.burn (d : Dk) : Dk := { d with fuse := if 0 < d.fuse then d.fuse - 1 else d.fuse, down := d.down || decide (d.fuse = 0) }
theorem burn_ok {S : Obs} {p r : Nat} {h : Heap} {d : Dk} (D : Dsk S h p r d) (hf : d.fuse < 2 ^ 63) (md : Bool) (k : Nat) :
    ∃ h', exFn C0 E0 (k + 1) md 50 [dp p] h = some (.bool (!d.burn.down), h') ∧ Dsk S h' p r d.burn ∧ Keep S h h' ∧ (∀ i, i ≠ p → h'[i]? = h[i]?) ∧ h'.length = h.length := by
  obtain ⟨x, hx, ha⟩ := D.var
  have hlt : p < h.length := (List.getElem?_eq_some_iff.1 hx).1
  have n0 : ([dp p] ++ List.replicate (28 - [dp p].length) AV.undef) = st 28 [(0, dp p)] := rfl
  rcases Int.lt_trichotomy d.fuse 0 with h0 | h0 | h0
  · refine ⟨h, exFn_of e50 ?_, ?_, Keep.refl _ _, fun _ _ => rfl, rfl⟩
    · have e1 : decide (d.fuse = 0) = false := by simp; omega
      have e2 : decide (0 < d.fuse) = false := by simp; omega
      have e3 : d.burn.down = d.down := by simp [Dk.burn, e1]
      rw [fnK, n0, s50, e3]
      simp -implicitDefEqProofs only [↓runK_seq, runK_seq, ↓runK_cond, runK_cond, ↓runK_block, runK_block, ↓runK_loop, runK_loop, ↓runK_skip, runK_skip, ↓runK_ret, runK_ret, ↓runK_exit, runK_exit, ↓seqE_n, seqE_n, ↓seqE_e, seqE_e, ↓seqE_r, seqE_r, ↓blkE_n, blkE_n, ↓blkE_e, blkE_e, ↓blkE_r, blkE_r, ↓retK_n, retK_n, ↓retK_r, retK_r, ↓aCall_fn, aCall_fn, ↓bnd_s, bnd_s, ↓bnd2_s, bnd2_s, ↓onB_t, onB_t, ↓onB_f, onB_f, ↓onG_tt, onG_tt, ↓onG_tf, onG_tf, ↓onG_ft, onG_ft, ↓onG_ff, onG_ff, ↓onG_s, onG_s, ↓onT_t, onT_t, ↓aPick_t, aPick_t, ↓aPick_f, aPick_f, decide_true, decide_false, st_tmp, results1, results2, List.lookup_cons, List.lookup_nil, Nat.reduceBEq, Bool.false_eq_true, ↓reduceIte, BEq.rfl, Nat.reduceLT, Option.getD_some, Option.getD_none, ↓r50_0, r50_0, ↓r50_1, r50_1, ↓r50_2, r50_2, ↓r50_3a, r50_3a, ↓r50_3b, r50_3b, ↓r50_4, r50_4, ↓r50_5a, r50_5a, ↓r50_5b, r50_5b, dp_chk, dpf2, dpf3, dld2 hx, dld3 hx, bin_eql, e1, bin_gtr, e2, un_not]
    · have : d.burn = d := by
        have e1 : decide (d.fuse = 0) = false := by simp; omega
        have e2 : ¬ 0 < d.fuse := by omega
        unfold Dk.burn
        rw [e1, if_neg e2]
        simp
      rw [this]; exact D
  · have D1 := D.upd hx ha d.fuse true
    have hb : d.burn = { d with fuse := d.fuse, down := true } := by
      have e2 : ¬ 0 < d.fuse := by omega
      unfold Dk.burn
      simp [h0]
    refine ⟨_, exFn_of e50 ?_, hb ▸ D1, Keep.set h _ D.hp, fun i hi => List.getElem?_set_ne (by omega), by simp⟩
    have e1 : decide (d.fuse = 0) = true := by simp; omega
    have e2 : decide (0 < d.fuse) = false := by simp; omega
    have hx' : (h.set p (dv r d.lasts.length x d.fuse true))[p]? = some (dv r d.lasts.length x d.fuse true) := by simp [hlt]
    rw [fnK, n0, s50, hb]
    simp -implicitDefEqProofs only [↓runK_seq, runK_seq, ↓runK_cond, runK_cond, ↓runK_block, runK_block, ↓runK_loop, runK_loop, ↓runK_skip, runK_skip, ↓runK_ret, runK_ret, ↓runK_exit, runK_exit, ↓seqE_n, seqE_n, ↓seqE_e, seqE_e, ↓seqE_r, seqE_r, ↓blkE_n, blkE_n, ↓blkE_e, blkE_e, ↓blkE_r, blkE_r, ↓retK_n, retK_n, ↓retK_r, retK_r, ↓aCall_fn, aCall_fn, ↓bnd_s, bnd_s, ↓bnd2_s, bnd2_s, ↓onB_t, onB_t, ↓onB_f, onB_f, ↓onG_tt, onG_tt, ↓onG_tf, onG_tf, ↓onG_ft, onG_ft, ↓onG_ff, onG_ff, ↓onG_s, onG_s, ↓onT_t, onT_t, ↓aPick_t, aPick_t, ↓aPick_f, aPick_f, decide_true, decide_false, st_tmp, results1, results2, List.lookup_cons, List.lookup_nil, Nat.reduceBEq, Bool.false_eq_true, ↓reduceIte, BEq.rfl, Nat.reduceLT, Option.getD_some, Option.getD_none, ↓r50_0, r50_0, ↓r50_1, r50_1, ↓r50_2, r50_2, ↓r50_3a, r50_3a, ↓r50_3b, r50_3b, ↓r50_4, r50_4, ↓r50_5a, r50_5a, ↓r50_5b, r50_5b, dp_chk, dpf2, dpf3, dld2 hx, dld3 hx, dld2 hx', dld3 hx', dst3 hx, bin_eql, e1, bin_gtr, e2, un_not]
  · have w : IntKind.i64.wrap (d.fuse - 1) = d.fuse - 1 := wrap_i64 (by omega) (by omega)
    have D1 := D.upd hx ha (d.fuse - 1) d.down
    have hb : d.burn = { d with fuse := d.fuse - 1, down := d.down } := by
      have e1 : decide (d.fuse = 0) = false := by simp; omega
      unfold Dk.burn
      rw [e1, if_pos h0]
      simp
    refine ⟨_, exFn_of e50 ?_, hb ▸ D1, Keep.set h _ D.hp, fun i hi => List.getElem?_set_ne (by omega), by simp⟩
    have e1 : decide (d.fuse = 0) = false := by simp; omega
    have e2 : decide (0 < d.fuse) = true := by simp; omega
    have hx' : (h.set p (dv r d.lasts.length x (d.fuse - 1) d.down))[p]? = some (dv r d.lasts.length x (d.fuse - 1) d.down) := by simp [hlt]
    rw [fnK, n0, s50, hb]
    simp -implicitDefEqProofs only [↓runK_seq, runK_seq, ↓runK_cond, runK_cond, ↓runK_block, runK_block, ↓runK_loop, runK_loop, ↓runK_skip, runK_skip, ↓runK_ret, runK_ret, ↓runK_exit, runK_exit, ↓seqE_n, seqE_n, ↓seqE_e, seqE_e, ↓seqE_r, seqE_r, ↓blkE_n, blkE_n, ↓blkE_e, blkE_e, ↓blkE_r, blkE_r, ↓retK_n, retK_n, ↓retK_r, retK_r, ↓aCall_fn, aCall_fn, ↓bnd_s, bnd_s, ↓bnd2_s, bnd2_s, ↓onB_t, onB_t, ↓onB_f, onB_f, ↓onG_tt, onG_tt, ↓onG_tf, onG_tf, ↓onG_ft, onG_ft, ↓onG_ff, onG_ff, ↓onG_s, onG_s, ↓onT_t, onT_t, ↓aPick_t, aPick_t, ↓aPick_f, aPick_f, decide_true, decide_false, st_tmp, results1, results2, List.lookup_cons, List.lookup_nil, Nat.reduceBEq, Bool.false_eq_true, ↓reduceIte, BEq.rfl, Nat.reduceLT, Option.getD_some, Option.getD_none, ↓r50_0, r50_0, ↓r50_1, r50_1, ↓r50_2, r50_2, ↓r50_3a, r50_3a, ↓r50_3b, r50_3b, ↓r50_4, r50_4, ↓r50_5a, r50_5a, ↓r50_5b, r50_5b, dp_chk, dpf2, dpf3, dld2 hx, dld3 hx, dld3 hx', dst2 hx, bin_eql, e1, bin_gtr, e2, bin_sub, w, un_not]
def By (U : Obs) (h : Heap) (x : AV) (l : List UInt8) : Prop :=
  Bs x l ∨ ∃ r p off L, x = .msl r p 5 off l.length ∧ U r ∧ (h[r]?).bind (rowGet · p) = some L ∧ off + l.length ≤ L.length ∧ (L.drop off).take l.length = l.map U8
theorem By.len {U : Obs} {h : Heap} {x : AV} {l : List UInt8} (b : By U h x l) : aLen tab 22 x = some (.int .i64 l.length) := by
  rcases b with b | ⟨r, p, off, L, rfl, -⟩
  · exact b.len
  · simp [aLen]
theorem By.src {U : Obs} {h : Heap} {x : AV} {l : List UInt8} (b : By U h x l) : srcElems tab 5 h x = some (l.map U8) := by
  rcases b with (⟨rfl, rfl⟩ | ⟨k, rfl⟩) | ⟨r, p, off, L, rfl, -, hr, hle, hl⟩
  · simp [srcElems]
  · simp [srcElems]
  · simp [srcElems, slElems, hr, hle, hl]
theorem By.keep {U V : Obs} {h h' : Heap} {x : AV} {l : List UInt8} (b : By U h x l) (k : Keep V h h') (hd : ∀ i, i < h.length → U i → ¬ V i) : By U h' x l := by
  rcases b with b | ⟨r, p, off, L, hx, hu, hr, hl⟩
  · exact .inl b
  · have hlt : r < h.length := by
      rcases Nat.lt_or_ge r h.length with g | g
      · exact g
      · rw [List.getElem?_eq_none g] at hr; cases hr
    exact .inr ⟨r, p, off, L, hx, hu, by rw [k.2 r (hd r hlt hu)]; exact hr, hl⟩
theorem By.fits {U : Obs} {h : Heap} {x : AV} {l : List UInt8} (b : By U h x l) : fits tab 22 x = true := by
  rcases b with (⟨rfl, rfl⟩ | ⟨k, rfl⟩) | ⟨r, p, off, L, rfl, -⟩ <;> rfl
theorem Ap.fits82 {S : Obs} {h : Heap} {x : AV} {l : List AV} (a : Ap 90 S h x l) : fits tab 82 x = true := by
  rcases a with ⟨rfl, -⟩ | ⟨k, rfl, -⟩ <;> rfl
def pad (b : List UInt8) : List UInt8 := b ++ List.replicate (64 - b.length) 0
theorem bld91 (n : Int) : aBuild tab 91 [(0, .int .i64 n)] = some (.agg 90 [.int .i64 n, cellAV (List.replicate 64 0)]) := by kernel_rfl
theorem alloc91 (h : Heap) : aAlloc tab 91 h = some (.ref h.length [] 90, h ++ [.var 91 (.agg 90 [.int .i64 0, cellAV (List.replicate 64 0)])]) := by kernel_rfl
theorem fa91_0 (q : Nat) : aFieldAddr tab 91 (.ref q [] 90) 0 = some (.ref q [0] 3) := by simp [aFieldAddr]
theorem fa91_1 (q : Nat) : aFieldAddr tab 91 (.ref q [] 90) 1 = some (.ref q [1] 88) := by simp [aFieldAddr]
theorem sl89 (q i : Nat) : aSlice tab 89 (.ref q [i] 88) none none none = some (.msl q [i] 5 0 64) := by simp [aSlice, aBounds, aBound]
theorem sl89v (l : List AV) (hl : l.length = 64) : aSlice tab 89 (.vptr 88 (.agg 88 l)) none none none = some (.vsl 5 l .none) := by
  simp [aSlice, aBounds, aBound]; rw [← hl]; simp
theorem fits91 (w : Nat × List UInt8) : fits tab 91 (writeAV w) = true := by kernel_rfl
theorem lit82 (w : Nat × List UInt8) : aLit tab 82 1 [(0, writeAV w)] = some (.vsl 90 [writeAV w] .exact) := by kernel_rfl
theorem app82 (x : AV) (new : List AV) (k : Tok) (h : Heap) : aApp tab 82 82 false x (.vsl 90 new k) h = aAppend tab 91 false x new h := by kernel_rfl
theorem cpy_new {h : Heap} {x : AV} {l c : List UInt8} {a : AV} (hx : srcElems tab 5 (h ++ [.var 91 (.agg 90 [a, cellAV c])]) x = some (l.map U8)) (hc : c.length = 64) (hl : l.length ≤ 64) :
    aCpy tab 22 (.msl h.length [1] 5 0 64) x (h ++ [.var 91 (.agg 90 [a, cellAV c])]) = some (.int .i64 l.length, h ++ [.var 91 (.agg 90 [a, cellAV (l ++ c.drop l.length)])]) := by
  simp only [aCpy, td22, tu5, hx, aCopy]
  have e : (l.map U8).take l.length = l.map U8 := List.take_of_length_le (by simp)
  simp [rowGet, objGet, getP, cellAV, rowSet, objSet, setP, hc, Nat.min_eq_left hl, e]
theorem write90 (n : Nat) (l : List UInt8) : AV.agg 90 [.int .i64 n, cellAV l] = writeAV (n, l) := rfl
def Dk.add (d : Dk) (w : Nat × List UInt8) : Dk := ⟨d.lasts, d.loose ++ [w], d.fuse, d.down⟩
def Dk.write (d : Dk) (at' : Int) (b : List UInt8) : Int × Dk :=
  if ¬ d.has at' ∨ 64 < b.length then (1, d)
  else if d.burn.down then (4, d.burn)
  else (0, d.burn.add (at'.toNat, pad b))
section
variable {S U : Obs} {p r : Nat} {h : Heap} {d : Dk} (D : Dsk S h p r d) {at' : Int} {x : AV} {b : List UInt8} (k : Nat)
theorem wn0 (p : Nat) (at' : Int) (x : AV) : ([dp p, .int .i64 at', x] ++ List.replicate (36 - [dp p, .int .i64 at', x].length) AV.undef) = st 36 [(0, dp p), (1, .int .i64 at'), (2, x)] := rfl
include D in
theorem write_no (h1 : ¬ d.has at') : exFn C0 E0 (k + 3) false 17 [dp p, .int .i64 at', x] h = some (.int .i64 1, h) := by
  have e0 : decide (d.has at') = false := decide_eq_false h1
  refine exFn_of e17 ?_
  rw [fnK, wn0, s17]
  simp -implicitDefEqProofs only [↓runK_seq, runK_seq, ↓runK_cond, runK_cond, ↓runK_block, runK_block, ↓runK_loop, runK_loop, ↓runK_skip, runK_skip, ↓runK_ret, runK_ret, ↓runK_exit, runK_exit, ↓seqE_n, seqE_n, ↓seqE_e, seqE_e, ↓seqE_r, seqE_r, ↓blkE_n, blkE_n, ↓blkE_e, blkE_e, ↓blkE_r, blkE_r, ↓retK_n, retK_n, ↓retK_r, retK_r, ↓aCall_fn, aCall_fn, ↓bnd_s, bnd_s, ↓bnd2_s, bnd2_s, ↓onB_t, onB_t, ↓onB_f, onB_f, ↓onG_tt, onG_tt, ↓onG_tf, onG_tf, ↓onG_ft, onG_ft, ↓onG_ff, onG_ff, ↓onG_s, onG_s, ↓onT_t, onT_t, ↓aPick_t, aPick_t, ↓aPick_f, aPick_f, decide_true, decide_false, st_tmp, results1, results2, List.lookup_cons, List.lookup_nil, Nat.reduceBEq, Bool.false_eq_true, ↓reduceIte, BEq.rfl, Nat.reduceLT, Option.getD_some, Option.getD_none, ↓r17_0, r17_0, ↓r17_1, r17_1, J17_1_0, J17_1_1, J17_1_2, ↓r17_2, r17_2, ↓r17_3, r17_3, ↓r17_4, r17_4, ↓r17_5, r17_5, ↓r17_6, r17_6, ↓r17_7, r17_7, ↓r17_8, r17_8, there_ok D, e0, un_not, Bool.not_false]
include D in
theorem write_long (h1 : d.has at') (hb : By U h x b) (h2 : 64 < b.length) : exFn C0 E0 (k + 3) false 17 [dp p, .int .i64 at', x] h = some (.int .i64 1, h) := by
  have e0 : decide (d.has at') = true := decide_eq_true h1
  have e2 : decide ((64 : Int) < (b.length : Nat)) = true := decide_eq_true (by omega)
  refine exFn_of e17 ?_
  rw [fnK, wn0, s17]
  simp -implicitDefEqProofs only [↓runK_seq, runK_seq, ↓runK_cond, runK_cond, ↓runK_block, runK_block, ↓runK_loop, runK_loop, ↓runK_skip, runK_skip, ↓runK_ret, runK_ret, ↓runK_exit, runK_exit, ↓seqE_n, seqE_n, ↓seqE_e, seqE_e, ↓seqE_r, seqE_r, ↓blkE_n, blkE_n, ↓blkE_e, blkE_e, ↓blkE_r, blkE_r, ↓retK_n, retK_n, ↓retK_r, retK_r, ↓aCall_fn, aCall_fn, ↓bnd_s, bnd_s, ↓bnd2_s, bnd2_s, ↓onB_t, onB_t, ↓onB_f, onB_f, ↓onG_tt, onG_tt, ↓onG_tf, onG_tf, ↓onG_ft, onG_ft, ↓onG_ff, onG_ff, ↓onG_s, onG_s, ↓onT_t, onT_t, ↓aPick_t, aPick_t, ↓aPick_f, aPick_f, decide_true, decide_false, st_tmp, results1, results2, List.lookup_cons, List.lookup_nil, Nat.reduceBEq, Bool.false_eq_true, ↓reduceIte, BEq.rfl, Nat.reduceLT, Option.getD_some, Option.getD_none, ↓r17_0, r17_0, ↓r17_1, r17_1, J17_1_0, J17_1_1, J17_1_2, ↓r17_2, r17_2, ↓r17_3, r17_3, ↓r17_4, r17_4, ↓r17_5, r17_5, ↓r17_6, r17_6, ↓r17_7, r17_7, ↓r17_8, r17_8, there_ok D, e0, un_not, Bool.not_true, hb.len, bin_gtr, e2]
include D in
theorem write_down (h1 : d.has at') (hb : By U h x b) (h2 : ¬ 64 < b.length) {h' : Heap} (b1 : exFn C0 E0 (k + 2) false 50 [dp p] h = some (.bool false, h')) :
    exFn C0 E0 (k + 3) false 17 [dp p, .int .i64 at', x] h = some (.int .i64 4, h') := by
  have e0 : decide (d.has at') = true := decide_eq_true h1
  have e2 : decide ((64 : Int) < (b.length : Nat)) = false := decide_eq_false (by omega)
  refine exFn_of e17 ?_
  rw [fnK, wn0, s17]
  simp -implicitDefEqProofs only [↓runK_seq, runK_seq, ↓runK_cond, runK_cond, ↓runK_block, runK_block, ↓runK_loop, runK_loop, ↓runK_skip, runK_skip, ↓runK_ret, runK_ret, ↓runK_exit, runK_exit, ↓seqE_n, seqE_n, ↓seqE_e, seqE_e, ↓seqE_r, seqE_r, ↓blkE_n, blkE_n, ↓blkE_e, blkE_e, ↓blkE_r, blkE_r, ↓retK_n, retK_n, ↓retK_r, retK_r, ↓aCall_fn, aCall_fn, ↓bnd_s, bnd_s, ↓bnd2_s, bnd2_s, ↓onB_t, onB_t, ↓onB_f, onB_f, ↓onG_tt, onG_tt, ↓onG_tf, onG_tf, ↓onG_ft, onG_ft, ↓onG_ff, onG_ff, ↓onG_s, onG_s, ↓onT_t, onT_t, ↓aPick_t, aPick_t, ↓aPick_f, aPick_f, decide_true, decide_false, st_tmp, results1, results2, List.lookup_cons, List.lookup_nil, Nat.reduceBEq, Bool.false_eq_true, ↓reduceIte, BEq.rfl, Nat.reduceLT, Option.getD_some, Option.getD_none, ↓r17_0, r17_0, ↓r17_1, r17_1, J17_1_0, J17_1_1, J17_1_2, ↓r17_2, r17_2, ↓r17_3, r17_3, ↓r17_4, r17_4, ↓r17_5, r17_5, ↓r17_6, r17_6, ↓r17_7, r17_7, ↓r17_8, r17_8, there_ok D, e0, un_not, Bool.not_true, hb.len, bin_gtr, e2, b1, Bool.not_false]
theorem drop_rep (n : Nat) : (List.replicate 64 (0 : UInt8)).drop n = List.replicate (64 - n) 0 := List.drop_replicate
theorem Dsk.add {S : Obs} {p r : Nat} {h h' : Heap} {d : Dk} (D : Dsk S h p r d) {w : Nat × List UInt8} {x : AV} (hw : w.1 < d.lasts.length ∧ w.2.length = 64)
    (ha : Ap 90 S h' x ((d.loose ++ [w]).map writeAV)) (hr : ∀ l, h[r]? = some (.row 88 l) → h'[r]? = some (.row 88 l)) {y : AV} (hp : h'[p]? = some (dv r d.lasts.length y d.fuse d.down)) :
    Dsk S (h'.set p (dv r d.lasts.length x d.fuse d.down)) p r (d.add w) := by
  have hlt : p < h'.length := (List.getElem?_eq_some_iff.1 hp).1
  refine ⟨D.hp, D.hr, ⟨x, by simp [hlt, Dk.add], ?_⟩, fun hne => ?_, D.cells, ?_, D.few⟩
  · exact ha.at hp (fun g e => by cases e) fun i _ hi => List.getElem?_set_ne (by omega)
  · have := hr _ (D.row hne)
    rw [List.getElem?_set_ne]
    · exact this
    · intro e
      subst e
      rw [hp] at this
      cases this
  · intro v hv
    rcases List.mem_append.1 hv with hv | hv
    · exact D.loose v hv
    · simp only [List.mem_singleton] at hv; subst hv; exact hw
end
theorem write_go {S U : Obs} {p r : Nat} {h : Heap} {d : Dk} {at' : Int} {x : AV} {b : List UInt8} (k : Nat) (D : Dsk S h p r d) (up : Up S h) (hb : By U h x b) (hU : ∀ i, i < h.length → U i → ¬ S i)
    (hl : d.loose.length < 2 ^ 30) (h1 : d.has at') (h2 : ¬ 64 < b.length) {h' : Heap} (b1 : exFn C0 E0 (k + 2) false 50 [dp p] h = some (.bool true, h')) (D1 : Dsk S h' p r d.burn) (k1 : Keep S h h') :
    ∃ h'', exFn C0 E0 (k + 3) false 17 [dp p, .int .i64 at', x] h = some (.int .i64 0, h'') ∧ Dsk S h'' p r (d.burn.add (at'.toNat, pad b)) ∧ Keep S h h'' := by
  have e0 : decide (d.has at') = true := decide_eq_true h1
  have e2 : decide ((64 : Int) < (b.length : Nat)) = false := decide_eq_false (by omega)
  have hbl : d.burn.loose.length = d.loose.length := rfl
  obtain ⟨n, rfl⟩ : ∃ n : Nat, at' = n := ⟨at'.toNat, by have := h1.1; omega⟩
  rw [Int.toNat_natCast]
  have up1 := up.keep k1
  have k0 : Keep (From h'.length) h' (h' ++ [.var 91 (writeAV (n, List.replicate 64 0))]) := Keep.app h' _ (Up.fresh h')
  have hb1 := (hb.keep k1 hU).keep k0 fun i hi _ hj => Nat.not_le.2 hi hj
  have cp : aCpy tab 22 (.msl h'.length [1] 5 0 64) x (h' ++ [.var 91 (writeAV (n, List.replicate 64 0))]) = some (.int .i64 b.length, h' ++ [.var 91 (writeAV (n, pad b))]) := by
    have := cpy_new hb1.src List.length_replicate (by omega : b.length ≤ 64)
    rw [drop_rep] at this
    exact this
  have kH : Keep (From h'.length) h' (h' ++ [.var 91 (writeAV (n, pad b))]) := Keep.app h' _ (Up.fresh h')
  have D2 := D1.fresh kH
  have upH := up1.keep kH
  obtain ⟨y, hy, ha⟩ := D2.var
  have hq : (h' ++ [.var 91 (writeAV (n, pad b))])[h'.length]? = some (.var 91 (writeAV (n, pad b))) := by simp
  generalize hH : h' ++ [Obj.var 91 (writeAV (n, pad b))] = H at *
  obtain ⟨y', h3, kk, ap, hyk, ha3, k3, nt⟩ := Ap.append (T := tab) (e := 91) (S := S) (h := H) (x := y) (l := d.burn.loose.map writeAV) (new := [writeAV (n, pad b)]) (by rw [tu91]; exact ha) upH (by simp) (by simp)
    (by simp only [tb91, List.length_map, List.length_singleton, hbl]; omega) (by simp only [List.length_map, List.length_singleton, hbl]; omega) (by simp)
  rw [tu91] at ha3
  have hy3 := nt p _ hy (fun g e => by cases e)
  have hr3 : ∀ l, H[r]? = some (.row 88 l) → h3[r]? = some (.row 88 l) := fun l hl => nt r _ hl (fun g e => by cases e)
  have D3 := D2.add (w := (n, pad b)) ⟨by have := h1.2; simp only [Dk.burn]; omega, by simp [pad]; omega⟩ (by rw [List.map_append]; exact ha3) hr3 hy3
  refine ⟨_, exFn_of e17 ?_, D3, (k1.fresh kH up).trans (k3.trans (Keep.set h3 _ D.hp))⟩
  have sn := store_new (h := h') (t := 91) (ty := 91) (u' := 90) (v := .agg 90 [.int .i64 0, cellAV (List.replicate 64 0)]) (x := writeAV (n, List.replicate 64 0)) (by simp) (fits91 _)
  rw [fnK, wn0, s17]
  simp -implicitDefEqProofs only [↓runK_seq, runK_seq, ↓runK_cond, runK_cond, ↓runK_block, runK_block, ↓runK_loop, runK_loop, ↓runK_skip, runK_skip, ↓runK_ret, runK_ret, ↓runK_exit, runK_exit, ↓seqE_n, seqE_n, ↓seqE_e, seqE_e, ↓seqE_r, seqE_r, ↓blkE_n, blkE_n, ↓blkE_e, blkE_e, ↓blkE_r, blkE_r, ↓retK_n, retK_n, ↓retK_r, retK_r, ↓aCall_fn, aCall_fn, ↓bnd_s, bnd_s, ↓bnd2_s, bnd2_s, ↓onB_t, onB_t, ↓onB_f, onB_f, ↓onG_tt, onG_tt, ↓onG_tf, onG_tf, ↓onG_ft, onG_ft, ↓onG_ff, onG_ff, ↓onG_s, onG_s, ↓onT_t, onT_t, ↓aPick_t, aPick_t, ↓aPick_f, aPick_f, decide_true, decide_false, st_tmp, results1, results2, List.lookup_cons, List.lookup_nil, Nat.reduceBEq, Bool.false_eq_true, ↓reduceIte, BEq.rfl, Nat.reduceLT, Option.getD_some, Option.getD_none, ↓r17_0, r17_0, ↓r17_1, r17_1, J17_1_0, J17_1_1, J17_1_2, ↓r17_2, r17_2, ↓r17_3, r17_3, ↓r17_4, r17_4, ↓r17_5, r17_5, ↓r17_6, r17_6, ↓r17_7, r17_7, ↓r17_8, r17_8, there_ok D, e0, un_not, Bool.not_true, hb.len, bin_gtr, e2, b1, bld91, alloc91, write90, sn, fa91_1, sl89, cp, hH, dp_chk, dpf1, dld1 hy,
    load_var hq (show (90 : Nat) = Tab.und tab 91 by simp), lit82, app82, ap, dst1 hy3 ha3.fits82]
theorem write_ok {S U : Obs} {p r : Nat} {h : Heap} {d : Dk} (D : Dsk S h p r d) (up : Up S h) (at' : Int) {x : AV} {b : List UInt8} (hb : By U h x b) (hU : ∀ i, i < h.length → U i → ¬ S i)
    (hl : d.loose.length < 2 ^ 30) (hf : d.fuse < 2 ^ 63) (k : Nat) :
    ∃ h', exFn C0 E0 (k + 3) false 17 [dp p, .int .i64 at', x] h = some (.int .i64 (d.write at' b).1, h') ∧ Dsk S h' p r (d.write at' b).2 ∧ Keep S h h' := by
  unfold Dk.write
  by_cases h1 : d.has at'
  · by_cases h2 : 64 < b.length
    · rw [if_pos (.inr h2)]
      exact ⟨h, write_long D k h1 hb h2, D, Keep.refl _ _⟩
    · rw [if_neg (fun h => h.elim (fun h => h h1) h2)]
      obtain ⟨h', b1, D1, k1, -, -⟩ := burn_ok D hf false (k + 1)
      cases hdn : d.burn.down
      · rw [hdn] at b1
        exact write_go k D up hb hU hl h1 h2 b1 D1 k1
      · rw [hdn] at b1
        exact ⟨h', write_down D k h1 hb h2 b1, D1, k1⟩
  · rw [if_pos (.inl h1)]
    exact ⟨h, write_no D k h1, D, Keep.refl _ _⟩
end Go.Ax

set_option linter.unusedVariables false
namespace Go.Ax
open Go Go.Proofs
noncomputable def O20 (i : Nat) : Array Oper := opsOf i (bodyOf Try.f20)
theorem s20 : bodyOf Try.f20 = (.seq (.region 0 (O20 0) false) (.seq (.seq (.region 1 (O20 1) false) (.cond (Go.Operand.tmp 9) (.seq (.region 2 (O20 2) false) .ret) .skip)) (.seq (.region 3 (O20 3) false) .ret))) := by kernel_rfl
theorem e20 : E0 20 = some ⟨18, [4, 5], bodyOf Try.f20⟩ := by kernel_rfl
theorem r20_0 {β : Type} (call : CallF) (md : Bool) (n : Nat) (k : Ex → List AV → Heap → Option β) (x0 x1 : AV) (h : Heap) :
    runK C0 call md 20 n (.region 0 (O20 0) false) k (st 18 [(0, x0), (1, x1)]) h =
    k .normal (st 18 [(0, x0), (1, x1)]) h
  := by kernel_rfl
theorem r20_1 {β : Type} (call : CallF) (md : Bool) (n : Nat) (k : Ex → List AV → Heap → Option β) (x0 x1 : AV) (h : Heap) :
    runK C0 call md 20 n (.region 1 (O20 1) false) k (st 18 [(0, x0), (1, x1)]) h =
    bnd2 (aCall call md (.fn (.func 49) []) [x0, x1] h) fun v1 h2 =>
    bnd (aUn .not v1) fun v3 =>
    k .normal (st 18 [(0, x0), (1, x1), (9, v3)]) h2
  := by kernel_rfl
theorem r20_2 {β : Type} (call : CallF) (md : Bool) (n : Nat) (k : Ex → List AV → Heap → Option β) (x0 x1 x9 : AV) (h : Heap) :
    runK C0 call md 20 n (.region 2 (O20 2) false) k (st 18 [(0, x0), (1, x1), (9, x9)]) h =
    k .normal (st 18 [(4, .nils), (5, (.int .i64 1))]) h
  := by kernel_rfl
theorem r20_3 {β : Type} (call : CallF) (md : Bool) (n : Nat) (k : Ex → List AV → Heap → Option β) (x0 x1 x9 : AV) (h : Heap) :
    runK C0 call md 20 n (.region 3 (O20 3) false) k (st 18 [(0, x0), (1, x1), (9, x9)]) h =
    bnd (aNil x0) fun v1 =>
    bnd (aFieldAddr tab 84 v1 0) fun v2 =>
    bnd (aLoad tab 81 v2 h) fun v3 =>
    bnd (aIndexAddr tab 81 v3 x1) fun v4 =>
    bnd (aSlice tab 89 v4 none none none) fun v5 =>
    bnd2 (aCall call md (.fn (.func 52) []) [v5] h) fun v6 h7 =>
    k .normal (st 18 [(4, v6), (5, (.int .i64 0))]) h7
  := by kernel_rfl
end Go.Ax

set_option linter.unusedVariables false
namespace Go.Ax
open Go Go.Proofs
noncomputable def O53 (i : Nat) : Array Oper := opsOf i (bodyOf Try.f53)
noncomputable def B53_1 : Code := (.seq (.region 5 (O53 5) false) (.seq (.cond (Go.Operand.tmp 14) .skip (.exit 0)) (.seq (.block 1 (.seq (.region 6 (O53 6) false) (.region 7 (O53 7) false))) (.region 8 (O53 8) false))))
theorem s53 : bodyOf Try.f53 = (.seq (.region 0 (O53 0) false) (.seq (.seq (.region 1 (O53 1) false) (.cond (Go.Operand.tmp 7) (.seq (.region 2 (O53 2) false) .ret) .skip)) (.seq (.region 3 (O53 3) false) (.seq (.seq (.region 4 (O53 4) false) (.block 0 (.loop B53_1))) (.seq (.region 9 (O53 9) false) .ret))))) := by kernel_rfl
theorem e53 : E0 53 = some ⟨24, [2], bodyOf Try.f53⟩ := by kernel_rfl
theorem r53_0 {β : Type} (call : CallF) (md : Bool) (n : Nat) (k : Ex → List AV → Heap → Option β) (x0 : AV) (h : Heap) :
    runK C0 call md 53 n (.region 0 (O53 0) false) k (st 24 [(0, x0)]) h =
    k .normal (st 24 [(0, x0)]) h
  := by kernel_rfl
theorem r53_1 {β : Type} (call : CallF) (md : Bool) (n : Nat) (k : Ex → List AV → Heap → Option β) (x0 : AV) (h : Heap) :
    runK C0 call md 53 n (.region 1 (O53 1) false) k (st 24 [(0, x0)]) h =
    bnd (aBinC tab .eql 25 x0 .nilp true) fun v1 =>
    k .normal (st 24 [(0, x0), (7, v1)]) h
  := by kernel_rfl
theorem r53_2 {β : Type} (call : CallF) (md : Bool) (n : Nat) (k : Ex → List AV → Heap → Option β) (x0 x7 : AV) (h : Heap) :
    runK C0 call md 53 n (.region 2 (O53 2) false) k (st 24 [(0, x0), (7, x7)]) h =
    k .normal (st 24 [(2, .nils)]) h
  := by kernel_rfl
theorem r53_3 {β : Type} (call : CallF) (md : Bool) (n : Nat) (k : Ex → List AV → Heap → Option β) (x0 x7 : AV) (h : Heap) :
    runK C0 call md 53 n (.region 3 (O53 3) false) k (st 24 [(0, x0), (7, x7)]) h =
    k .normal (st 24 [(0, x0), (3, .nils)]) h
  := by kernel_rfl
theorem r53_4 {β : Type} (call : CallF) (md : Bool) (n : Nat) (k : Ex → List AV → Heap → Option β) (x0 x3 : AV) (h : Heap) :
    runK C0 call md 53 n (.region 4 (O53 4) false) k (st 24 [(0, x0), (3, x3)]) h =
    bnd (aNil x0) fun v1 =>
    bnd (aFieldAddr tab 84 v1 1) fun v2 =>
    bnd (aLoad tab 82 v2 h) fun v3 =>
    bnd (aLen tab 82 v3) fun v4 =>
    k .normal (st 24 [(3, x3), (11, v3), (12, v4), (13, (.int .i64 0))]) h
  := by kernel_rfl
theorem r53_5 {β : Type} (call : CallF) (md : Bool) (n : Nat) (k : Ex → List AV → Heap → Option β) (x3 x11 x12 x13 : AV) (h : Heap) :
    runK C0 call md 53 n (.region 5 (O53 5) false) k (st 24 [(3, x3), (11, x11), (12, x12), (13, x13)]) h =
    bnd (aBinC tab .lss 3 x13 x12 false) fun v1 =>
    k .normal (st 24 [(3, x3), (11, x11), (12, x12), (13, x13), (14, v1)]) h
  := by kernel_rfl
theorem r53_6 {β : Type} (call : CallF) (md : Bool) (n : Nat) (k : Ex → List AV → Heap → Option β) (x3 x11 x12 x13 x14 : AV) (h : Heap) :
    runK C0 call md 53 n (.region 6 (O53 6) false) k (st 24 [(3, x3), (11, x11), (12, x12), (13, x13), (14, x14)]) h =
    bnd (aIndexAddr tab 82 x11 x13) fun v1 =>
    bnd (aLoad tab 91 v1 h) fun v2 =>
    bnd2 (aAlloc tab 91 h) fun v3 h4 =>
    bnd (aStore tab 91 v3 v2 h4) fun h5 =>
    k .normal (st 24 [(3, x3), (5, v3), (11, x11), (12, x12), (13, x13)]) h5
  := by kernel_rfl
theorem r53_7 {β : Type} (call : CallF) (md : Bool) (n : Nat) (k : Ex → List AV → Heap → Option β) (x3 x5 x11 x12 x13 : AV) (h : Heap) :
    runK C0 call md 53 n (.region 7 (O53 7) false) k (st 24 [(3, x3), (5, x5), (11, x11), (12, x12), (13, x13)]) h =
    bnd (aFieldAddr tab 91 x5 0) fun v1 =>
    bnd (aLoad tab 3 v1 h) fun v2 =>
    bnd (aLit tab 93 1 [(0, v2)]) fun v3 =>
    bnd2 (aApp tab 93 93 md x3 v3 h) fun v4 h5 =>
    k .normal (st 24 [(3, v4), (11, x11), (12, x12), (13, x13)]) h5
  := by kernel_rfl
theorem r53_8 {β : Type} (call : CallF) (md : Bool) (n : Nat) (k : Ex → List AV → Heap → Option β) (x3 x11 x12 x13 : AV) (h : Heap) :
    runK C0 call md 53 n (.region 8 (O53 8) false) k (st 24 [(3, x3), (11, x11), (12, x12), (13, x13)]) h =
    bnd (aBinC tab .add 3 x13 (.int .i64 1) true) fun v1 =>
    k .normal (st 24 [(3, x3), (11, x11), (12, x12), (13, v1)]) h
  := by kernel_rfl
theorem r53_9 {β : Type} (call : CallF) (md : Bool) (n : Nat) (k : Ex → List AV → Heap → Option β) (x3 x11 x12 x13 x14 : AV) (h : Heap) :
    runK C0 call md 53 n (.region 9 (O53 9) false) k (st 24 [(3, x3), (11, x11), (12, x12), (13, x13), (14, x14)]) h =
    k .normal (st 24 [(2, x3)]) h
  := by kernel_rfl
end Go.Ax

set_option linter.unusedVariables false
namespace Go.Ax
open Go Go.Proofs
noncomputable def O38 (i : Nat) : Array Oper := opsOf i (bodyOf Try.f38)
noncomputable def B38_1 : Code := (.seq (.seq (.region 3 (O38 3) false) (.cond (Go.Operand.tmp 24) .skip (.exit 0))) (.seq (.block 1 (.seq (.region 5 (O38 5) false) (.cond (Go.Operand.tmp 36) (.seq (.region 6 (O38 6) false) .ret) .skip))) (.region 4 (O38 4) false)))
theorem s38 : bodyOf Try.f38 = (.seq (.region 0 (O38 0) false) (.seq (.region 1 (O38 1) false) (.seq (.seq (.region 2 (O38 2) false) (.block 0 (.loop B38_1))) (.seq (.region 7 (O38 7) false) .ret)))) := by kernel_rfl
theorem e38 : E0 38 = some ⟨48, [4, 5], bodyOf Try.f38⟩ := by kernel_rfl
theorem r38_0 {β : Type} (call : CallF) (md : Bool) (n : Nat) (k : Ex → List AV → Heap → Option β) (x0 x1 : AV) (h : Heap) :
    runK C0 call md 38 n (.region 0 (O38 0) false) k (st 48 [(0, x0), (1, x1)]) h =
    k .normal (st 48 [(0, x0), (1, x1)]) h
  := by kernel_rfl
theorem r38_1 {β : Type} (call : CallF) (md : Bool) (n : Nat) (k : Ex → List AV → Heap → Option β) (x0 x1 : AV) (h : Heap) :
    runK C0 call md 38 n (.region 1 (O38 1) false) k (st 48 [(0, x0), (1, x1)]) h =
    bnd2 (aCall call md (.fn (.func 20) []) [x0, x1] h) fun v1 h2 =>
    bnd (aExtract v1 0) fun v3 =>
    bnd (aExtract v1 1) fun v4 =>
    k .normal (st 48 [(0, x0), (1, x1), (6, v3), (7, v4)]) h2
  := by kernel_rfl
theorem r38_2 {β : Type} (call : CallF) (md : Bool) (n : Nat) (k : Ex → List AV → Heap → Option β) (x0 x1 x6 x7 : AV) (h : Heap) :
    runK C0 call md 38 n (.region 2 (O38 2) false) k (st 48 [(0, x0), (1, x1), (6, x6), (7, x7)]) h =
    bnd2 (aCall call md (.fn (.func 53) []) [x0] h) fun v1 h2 =>
    bnd (aLen tab 93 v1) fun v3 =>
    bnd (aBinC tab .sub 3 v3 (.int .i64 1) true) fun v4 =>
    k .normal (st 48 [(0, x0), (1, x1), (6, x6), (7, x7), (8, v4)]) h2
  := by kernel_rfl
def J38_3_2 {β : Type} (call : CallF) (md : Bool) (k : Ex → List AV → Heap → Option β) (x0 x1 x6 x7 x8 x21 x23 : AV) (h : Heap) : Option β :=
    bnd (aPick x21 x23 (.bool false)) fun v1 =>
    k .normal (st 48 [(0, x0), (1, x1), (6, x6), (7, x7), (8, x8), (24, v1)]) h
theorem j38_3_2 {β : Type} (call : CallF) (md : Bool) (k : Ex → List AV → Heap → Option β) (x0 x1 x6 x7 x8 x19 x20 x21 x22 x23 : AV) (h : Heap) :
    opsK C0 call md 38 (O38 3) ((O38 3).toList.drop 5) (st 48 [(0, x0), (1, x1), (6, x6), (7, x7), (8, x8), (19, x19), (20, x20), (21, x21), (22, x22), (23, x23)]) h (fun tm h => k .normal (clr (C0.keep 38 3) tm) h) = J38_3_2 call md k x0 x1 x6 x7 x8 x21 x23 h := by kernel_rfl
def J38_3_1 {β : Type} (call : CallF) (md : Bool) (k : Ex → List AV → Heap → Option β) (x0 x1 x6 x7 x8 x21 : AV) (h : Heap) : Option β :=
    onG true x21 (
      bnd (aBinC tab .eql 27 x7 (.int .i64 0) true) fun v3 =>
      J38_3_2 call md k x0 x1 x6 x7 x8 x21 v3 h) (
      J38_3_2 call md k x0 x1 x6 x7 x8 x21 .skip h)
theorem g38_3_1 {β : Type} (call : CallF) (md : Bool) (kk : List AV → Heap → Option β) (x0 x1 x6 x7 x8 x19 x20 x21 : AV) (h : Heap) :
    opsK C0 call md 38 (O38 3) (((O38 3).toList.drop 3).take 2) (st 48 [(0, x0), (1, x1), (6, x6), (7, x7), (8, x8), (19, x19), (20, x20), (21, x21)]) h kk =
    onG true x21 (
      bnd (aBinC tab .eql 27 x7 (.int .i64 0) true) fun v4 =>
      kk (st 48 [(0, x0), (1, x1), (6, x6), (7, x7), (8, x8), (19, x19), (20, x20), (21, x21), (22, x7), (23, v4)]) h) (
      kk (st 48 [(0, x0), (1, x1), (6, x6), (7, x7), (8, x8), (19, x19), (20, x20), (21, x21), (22, .skip), (23, .skip)]) h)
  := by cases x21 with | bool b => (cases b <;> kernel_rfl) | _ => kernel_rfl
theorem j38_3_1 {β : Type} (call : CallF) (md : Bool) (k : Ex → List AV → Heap → Option β) (x0 x1 x6 x7 x8 x19 x20 x21 : AV) (h : Heap) :
    opsK C0 call md 38 (O38 3) ((O38 3).toList.drop 3) (st 48 [(0, x0), (1, x1), (6, x6), (7, x7), (8, x8), (19, x19), (20, x20), (21, x21)]) h (fun tm h => k .normal (clr (C0.keep 38 3) tm) h) = J38_3_1 call md k x0 x1 x6 x7 x8 x21 h := by
  have e : ((O38 3).toList.drop 3) = ((O38 3).toList.drop 3).take 2 ++ (O38 3).toList.drop 5 := by kernel_rfl
  rw [show opsK C0 call md 38 (O38 3) ((O38 3).toList.drop 3) = opsK C0 call md 38 (O38 3) (((O38 3).toList.drop 3).take 2 ++ (O38 3).toList.drop 5) from congrArg _ e]
  rw [opsK_append, g38_3_1]
  simp only [j38_3_2]
  rfl
def J38_3_0 {β : Type} (call : CallF) (md : Bool) (k : Ex → List AV → Heap → Option β) (x0 x1 x6 x7 x8 : AV) (h : Heap) : Option β :=
    bnd (aBinC tab .geq 3 x8 (.int .i64 0) true) fun v5 =>
    J38_3_1 call md k x0 x1 x6 x7 x8 v5 h
theorem g38_3_0 {β : Type} (call : CallF) (md : Bool) (kk : List AV → Heap → Option β) (x0 x1 x6 x7 x8 : AV) (h : Heap) :
    opsK C0 call md 38 (O38 3) ((O38 3).toList.take 3) (st 48 [(0, x0), (1, x1), (6, x6), (7, x7), (8, x8)]) h kk =
    bnd (aBinC tab .geq 3 x8 (.int .i64 0) true) fun v6 =>
    kk (st 48 [(0, x0), (1, x1), (6, x6), (7, x7), (8, x8), (19, x8), (20, v6), (21, v6)]) h
  := by kernel_rfl
theorem j38_3_0 {β : Type} (call : CallF) (md : Bool) (k : Ex → List AV → Heap → Option β) (x0 x1 x6 x7 x8 : AV) (h : Heap) :
    opsK C0 call md 38 (O38 3) (O38 3).toList (st 48 [(0, x0), (1, x1), (6, x6), (7, x7), (8, x8)]) h (fun tm h => k .normal (clr (C0.keep 38 3) tm) h) = J38_3_0 call md k x0 x1 x6 x7 x8 h := by
  have e : (O38 3).toList = (O38 3).toList.take 3 ++ (O38 3).toList.drop 3 := by kernel_rfl
  rw [show opsK C0 call md 38 (O38 3) (O38 3).toList = opsK C0 call md 38 (O38 3) ((O38 3).toList.take 3 ++ (O38 3).toList.drop 3) from congrArg _ e]
  rw [opsK_append, g38_3_0]
  simp only [j38_3_1]
  rfl
theorem r38_3 {β : Type} (call : CallF) (md : Bool) (n : Nat) (k : Ex → List AV → Heap → Option β) (x0 x1 x6 x7 x8 : AV) (h : Heap) :
    runK C0 call md 38 n (.region 3 (O38 3) false) k (st 48 [(0, x0), (1, x1), (6, x6), (7, x7), (8, x8)]) h = J38_3_0 call md k x0 x1 x6 x7 x8 h := (runK_region C0 call md 38 n 3 (O38 3) k (st 48 [(0, x0), (1, x1), (6, x6), (7, x7), (8, x8)]) h).trans (j38_3_0 call md k x0 x1 x6 x7 x8 h)
theorem r38_4 {β : Type} (call : CallF) (md : Bool) (n : Nat) (k : Ex → List AV → Heap → Option β) (x0 x1 x6 x7 x8 x36 : AV) (h : Heap) :
    runK C0 call md 38 n (.region 4 (O38 4) false) k (st 48 [(0, x0), (1, x1), (6, x6), (7, x7), (8, x8), (36, x36)]) h =
    bnd (aBinC tab .sub 3 x8 (.int .i64 1) true) fun v1 =>
    k .normal (st 48 [(0, x0), (1, x1), (6, x6), (7, x7), (8, v1)]) h
  := by kernel_rfl
theorem r38_5 {β : Type} (call : CallF) (md : Bool) (n : Nat) (k : Ex → List AV → Heap → Option β) (x0 x1 x6 x7 x8 x24 : AV) (h : Heap) :
    runK C0 call md 38 n (.region 5 (O38 5) false) k (st 48 [(0, x0), (1, x1), (6, x6), (7, x7), (8, x8), (24, x24)]) h =
    bnd (aNil x0) fun v1 =>
    bnd (aFieldAddr tab 84 v1 1) fun v2 =>
    bnd (aLoad tab 82 v2 h) fun v3 =>
    bnd (aIndexAddr tab 82 v3 x8) fun v4 =>
    bnd (aFieldAddr tab 91 v4 0) fun v5 =>
    bnd (aLoad tab 3 v5 h) fun v6 =>
    bnd (aBinC tab .eql 3 v6 x1 false) fun v7 =>
    k .normal (st 48 [(0, x0), (1, x1), (6, x6), (7, x7), (8, x8), (36, v7)]) h
  := by kernel_rfl
theorem r38_6 {β : Type} (call : CallF) (md : Bool) (n : Nat) (k : Ex → List AV → Heap → Option β) (x0 x1 x6 x7 x8 x36 : AV) (h : Heap) :
    runK C0 call md 38 n (.region 6 (O38 6) false) k (st 48 [(0, x0), (1, x1), (6, x6), (7, x7), (8, x8), (36, x36)]) h =
    bnd (aNil x0) fun v1 =>
    bnd (aFieldAddr tab 84 v1 1) fun v2 =>
    bnd (aLoad tab 82 v2 h) fun v3 =>
    bnd (aIndexAddr tab 82 v3 x8) fun v4 =>
    bnd (aFieldAddr tab 91 v4 1) fun v5 =>
    bnd (aSlice tab 89 v5 none none none) fun v6 =>
    bnd2 (aCall call md (.fn (.func 52) []) [v6] h) fun v7 h8 =>
    k .normal (st 48 [(4, v7), (5, (.int .i64 0))]) h8
  := by kernel_rfl
theorem r38_7 {β : Type} (call : CallF) (md : Bool) (n : Nat) (k : Ex → List AV → Heap → Option β) (x0 x1 x6 x7 x8 x24 : AV) (h : Heap) :
    runK C0 call md 38 n (.region 7 (O38 7) false) k (st 48 [(0, x0), (1, x1), (6, x6), (7, x7), (8, x8), (24, x24)]) h =
    k .normal (st 48 [(4, x6), (5, x7)]) h
  := by kernel_rfl
end Go.Ax

namespace Go.Ax
open Go Go.Proofs
theorem eql_nils (x : AV) (l : List UInt8) (U : Obs) (h : Heap) (b : By U h x l) : ∃ c, aBinC tab .eql 22 x .nils true = some (.bool c) ∧ (c = true → x = .nils ∧ l = []) := by
  rcases b with (⟨rfl, rfl⟩ | ⟨k, rfl⟩) | ⟨r, p, off, L, rfl, -⟩
  · exact ⟨true, by simp [aBinC, aBin, aEq], fun _ => ⟨rfl, rfl⟩⟩
  · exact ⟨false, by simp [aBinC, aBin, aEq], fun h => by cases h⟩
  · exact ⟨false, by simp [aBinC, aBin, aEq], fun h => by cases h⟩
theorem app22s {x y : AV} {l : List AV} {h : Heap} (e : srcElems tab 5 h y = some l) : aApp tab 22 22 false x y h = aAppend tab 5 false x l h := by
  simp [aApp, e]
theorem clone_ok {U : Obs} {x : AV} {l : List UInt8} {h : Heap} (b : By U h x l) (hl : l.length < 2 ^ 39) (k : Nat) :
    ∃ x' h', exFn C0 E0 (k + 1) false 52 [x] h = some (x', h') ∧ ApB (From h.length) h' x' l ∧ Keep (From h.length) h h' := by
  obtain ⟨c, hc, hn⟩ := eql_nils x l U h b
  have n0 : ([x] ++ List.replicate (8 - [x].length) AV.undef) = st 8 [(0, x)] := rfl
  cases c
  · have a0 : ApB (From h.length) h (.vsl 5 [] .exact) [] := .inr ⟨_, rfl, .inl rfl⟩
    cases l with
    | nil =>
      refine ⟨_, h, exFn_of e52 ?_, a0, Keep.refl _ _⟩
      rw [fnK, n0, s52]
      have e : aAppend tab 5 false (.vsl 5 [] .exact) ([] : List AV) h = some (.vsl 5 [] .exact, h) := rfl
      simp -implicitDefEqProofs only [↓runK_seq, runK_seq, ↓runK_cond, runK_cond, ↓runK_block, runK_block, ↓runK_loop, runK_loop, ↓runK_skip, runK_skip, ↓runK_ret, runK_ret, ↓runK_exit, runK_exit, ↓seqE_n, seqE_n, ↓seqE_e, seqE_e, ↓seqE_r, seqE_r, ↓blkE_n, blkE_n, ↓blkE_e, blkE_e, ↓blkE_r, blkE_r, ↓retK_n, retK_n, ↓retK_r, retK_r, ↓aCall_fn, aCall_fn, ↓bnd_s, bnd_s, ↓bnd2_s, bnd2_s, ↓onB_t, onB_t, ↓onB_f, onB_f, ↓onG_tt, onG_tt, ↓onG_tf, onG_tf, ↓onG_ft, onG_ft, ↓onG_ff, onG_ff, ↓onG_s, onG_s, ↓onT_t, onT_t, ↓aPick_t, aPick_t, ↓aPick_f, aPick_f, decide_true, decide_false, st_tmp, results1, results2, List.lookup_cons, List.lookup_nil, Nat.reduceBEq, Bool.false_eq_true, ↓reduceIte, BEq.rfl, Nat.reduceLT, Option.getD_some, Option.getD_none, ↓r52_0, r52_0, ↓r52_1, r52_1, ↓r52_2, r52_2, ↓r52_3, r52_3, hc, lit22_0, app22s b.src, List.map_nil, e]
    | cons y l =>
      obtain ⟨x', h', h1, h2, h3, -⟩ := a0.append (Up.fresh h) (new := y :: l) (by simp) (by simp only [List.length_nil]; omega)
      refine ⟨x', h', exFn_of e52 ?_, h2, h3⟩
      rw [fnK, n0, s52]
      simp -implicitDefEqProofs only [↓runK_seq, runK_seq, ↓runK_cond, runK_cond, ↓runK_block, runK_block, ↓runK_loop, runK_loop, ↓runK_skip, runK_skip, ↓runK_ret, runK_ret, ↓runK_exit, runK_exit, ↓seqE_n, seqE_n, ↓seqE_e, seqE_e, ↓seqE_r, seqE_r, ↓blkE_n, blkE_n, ↓blkE_e, blkE_e, ↓blkE_r, blkE_r, ↓retK_n, retK_n, ↓retK_r, retK_r, ↓aCall_fn, aCall_fn, ↓bnd_s, bnd_s, ↓bnd2_s, bnd2_s, ↓onB_t, onB_t, ↓onB_f, onB_f, ↓onG_tt, onG_tt, ↓onG_tf, onG_tf, ↓onG_ft, onG_ft, ↓onG_ff, onG_ff, ↓onG_s, onG_s, ↓onT_t, onT_t, ↓aPick_t, aPick_t, ↓aPick_f, aPick_f, decide_true, decide_false, st_tmp, results1, results2, List.lookup_cons, List.lookup_nil, Nat.reduceBEq, Bool.false_eq_true, ↓reduceIte, BEq.rfl, Nat.reduceLT, Option.getD_some, Option.getD_none, ↓r52_0, r52_0, ↓r52_1, r52_1, ↓r52_2, r52_2, ↓r52_3, r52_3, hc, lit22_0, app22s b.src, h1]
  · obtain ⟨rfl, rfl⟩ := hn rfl
    refine ⟨.nils, h, exFn_of e52 ?_, .inl ⟨rfl, rfl⟩, Keep.refl _ _⟩
    rw [fnK, n0, s52]
    simp -implicitDefEqProofs only [↓runK_seq, runK_seq, ↓runK_cond, runK_cond, ↓runK_block, runK_block, ↓runK_loop, runK_loop, ↓runK_skip, runK_skip, ↓runK_ret, runK_ret, ↓runK_exit, runK_exit, ↓seqE_n, seqE_n, ↓seqE_e, seqE_e, ↓seqE_r, seqE_r, ↓blkE_n, blkE_n, ↓blkE_e, blkE_e, ↓blkE_r, blkE_r, ↓retK_n, retK_n, ↓retK_r, retK_r, ↓aCall_fn, aCall_fn, ↓bnd_s, bnd_s, ↓bnd2_s, bnd2_s, ↓onB_t, onB_t, ↓onB_f, onB_f, ↓onG_tt, onG_tt, ↓onG_tf, onG_tf, ↓onG_ft, onG_ft, ↓onG_ff, onG_ff, ↓onG_s, onG_s, ↓onT_t, onT_t, ↓aPick_t, aPick_t, ↓aPick_f, aPick_f, decide_true, decide_false, st_tmp, results1, results2, List.lookup_cons, List.lookup_nil, Nat.reduceBEq, Bool.false_eq_true, ↓reduceIte, BEq.rfl, Nat.reduceLT, Option.getD_some, Option.getD_none, ↓r52_0, r52_0, ↓r52_1, r52_1, ↓r52_2, r52_2, ↓r52_3, r52_3, hc]
theorem idx81 (r n i : Nat) (hi : i < n) : aIndexAddr tab 81 (lastsAV r n) (.int .i64 i) = some (.ref r [i] 88) := by
  unfold lastsAV
  rw [if_neg (by omega)]
  simp [aIndexAddr, hi]
def Dk.lastsAt (d : Dk) (i : Int) : List UInt8 × Int := if d.has i then ((d.lasts[i.toNat]?).getD [], 0) else ([], 1)
theorem row_cell {S : Obs} {p r : Nat} {h : Heap} {d : Dk} (D : Dsk S h p r d) {n : Nat} (hn : n < d.lasts.length) : By S h (.msl r [n] 5 0 64) (d.lasts[n]) := by
  have hne : d.lasts ≠ [] := by intro e; rw [e] at hn; simp at hn
  have hl : (d.lasts[n]).length = 64 := D.cells _ (List.getElem_mem hn)
  refine .inr ⟨r, [n], 0, (d.lasts[n]).map U8, by rw [hl], D.hr hne, ?_, by simp, by simp [hl, List.take_of_length_le]⟩
  rw [D.row hne]
  simp [rowGet, objGet, getP, cellAV, hn]
theorem lasts_ok {S : Obs} {p r : Nat} {h : Heap} {d : Dk} (D : Dsk S h p r d) (i : Int) (k : Nat) :
    ∃ x' h', exFn C0 E0 (k + 3) false 20 [dp p, .int .i64 i] h = some (.tuple [x', .int .i64 (d.lastsAt i).2], h') ∧ ApB (From h.length) h' x' (d.lastsAt i).1 ∧ Keep (From h.length) h h' := by
  have n0 : ([dp p, .int .i64 i] ++ List.replicate (18 - [dp p, .int .i64 i].length) AV.undef) = st 18 [(0, dp p), (1, .int .i64 i)] := rfl
  unfold Dk.lastsAt
  by_cases h1 : d.has i
  · have e0 : decide (d.has i) = true := decide_eq_true h1
    rw [if_pos h1]
    obtain ⟨n, rfl⟩ : ∃ n : Nat, i = n := ⟨i.toNat, by have := h1.1; omega⟩
    have hn : n < d.lasts.length := by have := h1.2; omega
    have hl : (d.lasts[n]).length = 64 := D.cells _ (List.getElem_mem hn)
    obtain ⟨x', h', h2, h3, h4⟩ := clone_ok (row_cell D hn) (by omega) (k + 1)
    obtain ⟨x, hx, ha⟩ := D.var
    refine ⟨x', h', exFn_of e20 ?_, by simpa [hn] using h3, h4⟩
    rw [fnK, n0, s20]
    simp -implicitDefEqProofs only [↓runK_seq, runK_seq, ↓runK_cond, runK_cond, ↓runK_block, runK_block, ↓runK_loop, runK_loop, ↓runK_skip, runK_skip, ↓runK_ret, runK_ret, ↓runK_exit, runK_exit, ↓seqE_n, seqE_n, ↓seqE_e, seqE_e, ↓seqE_r, seqE_r, ↓blkE_n, blkE_n, ↓blkE_e, blkE_e, ↓blkE_r, blkE_r, ↓retK_n, retK_n, ↓retK_r, retK_r, ↓aCall_fn, aCall_fn, ↓bnd_s, bnd_s, ↓bnd2_s, bnd2_s, ↓onB_t, onB_t, ↓onB_f, onB_f, ↓onG_tt, onG_tt, ↓onG_tf, onG_tf, ↓onG_ft, onG_ft, ↓onG_ff, onG_ff, ↓onG_s, onG_s, ↓onT_t, onT_t, ↓aPick_t, aPick_t, ↓aPick_f, aPick_f, decide_true, decide_false, st_tmp, results1, results2, List.lookup_cons, List.lookup_nil, Nat.reduceBEq, Bool.false_eq_true, ↓reduceIte, BEq.rfl, Nat.reduceLT, Option.getD_some, Option.getD_none, ↓r20_0, r20_0, ↓r20_1, r20_1, ↓r20_2, r20_2, ↓r20_3, r20_3, there_ok D, e0, un_not, Bool.not_true, dp_chk, dpf0, dld0 hx, idx81 r _ n hn, sl89, h2]
  · have e0 : decide (d.has i) = false := decide_eq_false h1
    rw [if_neg h1]
    refine ⟨.nils, h, exFn_of e20 ?_, .inl ⟨rfl, rfl⟩, Keep.refl _ _⟩
    rw [fnK, n0, s20]
    simp -implicitDefEqProofs only [↓runK_seq, runK_seq, ↓runK_cond, runK_cond, ↓runK_block, runK_block, ↓runK_loop, runK_loop, ↓runK_skip, runK_skip, ↓runK_ret, runK_ret, ↓runK_exit, runK_exit, ↓seqE_n, seqE_n, ↓seqE_e, seqE_e, ↓seqE_r, seqE_r, ↓blkE_n, blkE_n, ↓blkE_e, blkE_e, ↓blkE_r, blkE_r, ↓retK_n, retK_n, ↓retK_r, retK_r, ↓aCall_fn, aCall_fn, ↓bnd_s, bnd_s, ↓bnd2_s, bnd2_s, ↓onB_t, onB_t, ↓onB_f, onB_f, ↓onG_tt, onG_tt, ↓onG_tf, onG_tf, ↓onG_ft, onG_ft, ↓onG_ff, onG_ff, ↓onG_s, onG_s, ↓onT_t, onT_t, ↓aPick_t, aPick_t, ↓aPick_f, aPick_f, decide_true, decide_false, st_tmp, results1, results2, List.lookup_cons, List.lookup_nil, Nat.reduceBEq, Bool.false_eq_true, ↓reduceIte, BEq.rfl, Nat.reduceLT, Option.getD_some, Option.getD_none, ↓r20_0, r20_0, ↓r20_1, r20_1, ↓r20_2, r20_2, ↓r20_3, r20_3, there_ok D, e0, un_not, Bool.not_false]
theorem len82 {S : Obs} {h : Heap} {x : AV} {l : List AV} (a : Ap 90 S h x l) : aLen tab 82 x = some (.int .i64 l.length) := by
  rcases a with ⟨rfl, rfl⟩ | ⟨k, rfl, -⟩ <;> simp [aLen]
theorem idx82 {S : Obs} {h : Heap} {x : AV} {l : List (Nat × List UInt8)} (a : Ap 90 S h x (l.map writeAV)) {i : Nat} {w : Nat × List UInt8} (hi : l[i]? = some w) : aIndexAddr tab 82 x (.int .i64 i) = some (.vptr 90 (writeAV w)) := by
  rcases a with ⟨rfl, e⟩ | ⟨k, rfl, -⟩
  · simp at e; subst e; simp at hi
  · simp [aIndexAddr, hi]
theorem load91v (h : Heap) (v : AV) : aLoad tab 91 (.vptr 90 v) h = some v := by simp [aLoad]
theorem lit93 (n : Int) : aLit tab 93 1 [(0, .int .i64 n)] = some (.vsl 3 [.int .i64 n] .exact) := by kernel_rfl
theorem app93 (x : AV) (new : List AV) (k : Tok) (h : Heap) : aApp tab 93 93 false x (.vsl 3 new k) h = aAppend tab 3 false x new h := by kernel_rfl
theorem len93 {S : Obs} {h : Heap} {x : AV} {l : List AV} (a : Ap 3 S h x l) : aLen tab 93 x = some (.int .i64 l.length) := by
  rcases a with ⟨rfl, rfl⟩ | ⟨k, rfl, -⟩ <;> simp [aLen]
theorem wld0 {h : Heap} {q : Nat} {w : Nat × List UInt8} (hq : h[q]? = some (.var 91 (writeAV w))) : aLoad tab 3 (.ref q [0] 3) h = some (.int .i64 w.1) := load_fld (i := 0) hq rfl (by simp)
theorem wld1 {h : Heap} {q : Nat} {w : Nat × List UInt8} (hq : h[q]? = some (.var 91 (writeAV w))) : aLoad tab 89 (.ref q [1] 88) h = some (cellAV w.2) := load_fld (i := 1) hq rfl (by simp)
theorem sn91 (h : Heap) (w : Nat × List UInt8) : aStore tab 91 (.ref h.length [] 90) (writeAV w) (h ++ [.var 91 (.agg 90 [.int .i64 0, cellAV (List.replicate 64 0)])]) = some (h ++ [.var 91 (writeAV w)]) :=
  store_new (by simp) (fits91 _)
abbrev atsAV (l : List (Nat × List UInt8)) : List AV := l.map fun w => .int .i64 w.1
theorem pend_loop {S : Obs} {h0 : Heap} {y : AV} {L : List (Nat × List UInt8)} (hy : Ap 90 S h0 y (L.map writeAV)) (hL : L.length < 2 ^ 30) (call : CallF) (N : Nat) {U : Obs} :
    ∀ (m i n : Nat) (acc : AV) (h : Heap), i + m = L.length → m < n → Ap 3 U h acc (atsAV (L.take i)) → Up U h →
    ∃ acc' h', (∀ K : Ex → List AV → Heap → Option (AV × Heap), loopK (fun next => runK C0 call false 53 N B53_1 (seqE next K)) n (st 24 [(3, acc), (11, y), (12, .int .i64 L.length), (13, .int .i64 i)]) h =
      K (.exit 0) (st 24 [(3, acc'), (11, y), (12, .int .i64 L.length), (13, .int .i64 L.length), (14, .bool false)]) h') ∧ Ap 3 U h' acc' (atsAV L) ∧ Keep U h h' := by
  intro m
  induction m with
  | zero =>
    intro i n acc h hi hn ha _
    obtain ⟨n, rfl⟩ : ∃ j, n = j + 1 := ⟨n - 1, by omega⟩
    obtain rfl : i = L.length := by omega
    refine ⟨acc, h, fun K => ?_, by simpa using ha, Keep.refl _ _⟩
    rw [loopK_succ]
    generalize loopK (fun next => runK C0 call false 53 N B53_1 (seqE next K)) n = Lp
    have e : decide (((L.length : Nat) : Int) < (L.length : Nat)) = false := decide_eq_false (by omega)
    simp -implicitDefEqProofs only [B53_1, ↓runK_seq, runK_seq, ↓runK_cond, runK_cond, ↓runK_block, runK_block, ↓runK_loop, runK_loop, ↓runK_skip, runK_skip, ↓runK_ret, runK_ret, ↓runK_exit, runK_exit, ↓seqE_n, seqE_n, ↓seqE_e, seqE_e, ↓seqE_r, seqE_r, ↓blkE_n, blkE_n, ↓blkE_e, blkE_e, ↓blkE_r, blkE_r, ↓retK_n, retK_n, ↓retK_r, retK_r, ↓aCall_fn, aCall_fn, ↓bnd_s, bnd_s, ↓bnd2_s, bnd2_s, ↓onB_t, onB_t, ↓onB_f, onB_f, ↓onG_tt, onG_tt, ↓onG_tf, onG_tf, ↓onG_ft, onG_ft, ↓onG_ff, onG_ff, ↓onG_s, onG_s, ↓onT_t, onT_t, ↓aPick_t, aPick_t, ↓aPick_f, aPick_f, decide_true, decide_false, st_tmp, results1, results2, List.lookup_cons, List.lookup_nil, Nat.reduceBEq, Bool.false_eq_true, ↓reduceIte, BEq.rfl, Nat.reduceLT, Option.getD_some, Option.getD_none, ↓r53_0, r53_0, ↓r53_1, r53_1, ↓r53_2, r53_2, ↓r53_3, r53_3, ↓r53_4, r53_4, ↓r53_5, r53_5, ↓r53_6, r53_6, ↓r53_7, r53_7, ↓r53_8, r53_8, ↓r53_9, r53_9, bin_lss, e]
  | succ m ih =>
    intro i n acc h hi hn ha up
    obtain ⟨n, rfl⟩ : ∃ j, n = j + 1 := ⟨n - 1, by omega⟩
    have hlt : i < L.length := by omega
    have hw : L[i]? = some L[i] := List.getElem?_eq_getElem hlt
    have e : decide (((i : Nat) : Int) < (L.length : Nat)) = true := decide_eq_true (by omega)
    have wr : IntKind.i64.wrap ((i : Int) + 1) = ((i + 1 : Nat) : Int) := by rw [wrap_i64] <;> omega
    have k1 : Keep (From h.length) h (h ++ [.var 91 (writeAV L[i])]) := Keep.app h _ (Up.fresh h)
    have hq : (h ++ [.var 91 (writeAV L[i])])[h.length]? = some (.var 91 (writeAV L[i])) := by simp
    have hsn := sn91 h L[i]
    have ha1 := ha.fresh k1
    have up1 := up.keep k1
    have kk := k1.up up
    generalize h ++ [Obj.var 91 (writeAV L[i])] = H at *
    obtain ⟨acc', h2, kk', ap, -, ha2, k2, -⟩ := Ap.append (T := tab) (e := 3) (S := U) (h := H) (x := acc) (l := atsAV (L.take i)) (new := [.int .i64 (L[i].1 : Nat)]) (by rw [tu3]; exact ha1) up1 (by simp) (by simp)
      (by simp only [tb3, List.length_map, List.length_singleton, List.length_take]; omega) (by simp only [List.length_map, List.length_singleton, List.length_take]; omega) (by simp)
    rw [tu3] at ha2
    have ha3 : Ap 3 U h2 acc' (atsAV (L.take (i + 1))) := by
      have e3 : atsAV (L.take (i + 1)) = atsAV (L.take i) ++ [.int .i64 (L[i].1 : Nat)] := by
        unfold atsAV; rw [List.take_add_one, hw, List.map_append]; rfl
      rw [e3]; exact ha2
    obtain ⟨acc'', h3, h4, h5, h6⟩ := ih (i + 1) n acc' h2 (by omega) (by omega) ha3 (up1.keep k2)
    refine ⟨acc'', h3, fun K => ?_, h5, (kk.trans k2).trans h6⟩
    rw [loopK_succ, ← h4 K]
    generalize loopK (fun next => runK C0 call false 53 N B53_1 (seqE next K)) n = Lp
    simp -implicitDefEqProofs only [B53_1, ↓runK_seq, runK_seq, ↓runK_cond, runK_cond, ↓runK_block, runK_block, ↓runK_loop, runK_loop, ↓runK_skip, runK_skip, ↓runK_ret, runK_ret, ↓runK_exit, runK_exit, ↓seqE_n, seqE_n, ↓seqE_e, seqE_e, ↓seqE_r, seqE_r, ↓blkE_n, blkE_n, ↓blkE_e, blkE_e, ↓blkE_r, blkE_r, ↓retK_n, retK_n, ↓retK_r, retK_r, ↓aCall_fn, aCall_fn, ↓bnd_s, bnd_s, ↓bnd2_s, bnd2_s, ↓onB_t, onB_t, ↓onB_f, onB_f, ↓onG_tt, onG_tt, ↓onG_tf, onG_tf, ↓onG_ft, onG_ft, ↓onG_ff, onG_ff, ↓onG_s, onG_s, ↓onT_t, onT_t, ↓aPick_t, aPick_t, ↓aPick_f, aPick_f, decide_true, decide_false, st_tmp, results1, results2, List.lookup_cons, List.lookup_nil, Nat.reduceBEq, Bool.false_eq_true, ↓reduceIte, BEq.rfl, Nat.reduceLT, Option.getD_some, Option.getD_none, ↓r53_0, r53_0, ↓r53_1, r53_1, ↓r53_2, r53_2, ↓r53_3, r53_3, ↓r53_4, r53_4, ↓r53_5, r53_5, ↓r53_6, r53_6, ↓r53_7, r53_7, ↓r53_8, r53_8, ↓r53_9, r53_9, bin_lss, e, idx82 hy hw, load91v, alloc91, hsn, fa91_0, wld0 hq, lit93, app93, ap, bin_add, wr]
theorem pending_ok {S : Obs} {p r : Nat} {h : Heap} {d : Dk} (D : Dsk S h p r d) (hl : d.loose.length < 2 ^ 30) (k : Nat) (hk : d.loose.length < k) :
    ∃ x' h', exFn C0 E0 (k + 1) false 53 [dp p] h = some (x', h') ∧ Ap 3 (From h.length) h' x' (atsAV d.loose) ∧ Keep (From h.length) h h' := by
  obtain ⟨x, hx, ha⟩ := D.var
  have n0 : ([dp p] ++ List.replicate (24 - [dp p].length) AV.undef) = st 24 [(0, dp p)] := rfl
  have hlen := len82 ha
  rw [List.length_map] at hlen
  obtain ⟨x', h', h1, h2, h3⟩ := pend_loop ha hl (exFn C0 E0 k) k d.loose.length 0 k .nils h (by omega) hk (.inl ⟨rfl, rfl⟩) (Up.fresh h)
  rw [show ((0 : Nat) : Int) = 0 from rfl] at h1
  refine ⟨x', h', exFn_of e53 ?_, h2, h3⟩
  rw [fnK, n0, s53]
  simp -implicitDefEqProofs only [↓runK_seq, runK_seq, ↓runK_cond, runK_cond, ↓runK_block, runK_block, ↓runK_loop, runK_loop, ↓runK_skip, runK_skip, ↓runK_ret, runK_ret, ↓runK_exit, runK_exit, ↓seqE_n, seqE_n, ↓seqE_e, seqE_e, ↓seqE_r, seqE_r, ↓blkE_n, blkE_n, ↓blkE_e, blkE_e, ↓blkE_r, blkE_r, ↓retK_n, retK_n, ↓retK_r, retK_r, ↓aCall_fn, aCall_fn, ↓bnd_s, bnd_s, ↓bnd2_s, bnd2_s, ↓onB_t, onB_t, ↓onB_f, onB_f, ↓onG_tt, onG_tt, ↓onG_tf, onG_tf, ↓onG_ft, onG_ft, ↓onG_ff, onG_ff, ↓onG_s, onG_s, ↓onT_t, onT_t, ↓aPick_t, aPick_t, ↓aPick_f, aPick_f, decide_true, decide_false, st_tmp, results1, results2, List.lookup_cons, List.lookup_nil, Nat.reduceBEq, Bool.false_eq_true, ↓reduceIte, BEq.rfl, Nat.reduceLT, Option.getD_some, Option.getD_none, ↓r53_0, r53_0, ↓r53_1, r53_1, ↓r53_2, r53_2, ↓r53_3, r53_3, ↓r53_4, r53_4, ↓r53_5, r53_5, ↓r53_6, r53_6, ↓r53_7, r53_7, ↓r53_8, r53_8, ↓r53_9, r53_9, dp_nil, dp_chk, dpf1, dld1 hx, hlen]
  rw [h1]
  simp -implicitDefEqProofs only [↓runK_seq, runK_seq, ↓runK_cond, runK_cond, ↓runK_block, runK_block, ↓runK_loop, runK_loop, ↓runK_skip, runK_skip, ↓runK_ret, runK_ret, ↓runK_exit, runK_exit, ↓seqE_n, seqE_n, ↓seqE_e, seqE_e, ↓seqE_r, seqE_r, ↓blkE_n, blkE_n, ↓blkE_e, blkE_e, ↓blkE_r, blkE_r, ↓retK_n, retK_n, ↓retK_r, retK_r, ↓aCall_fn, aCall_fn, ↓bnd_s, bnd_s, ↓bnd2_s, bnd2_s, ↓onB_t, onB_t, ↓onB_f, onB_f, ↓onG_tt, onG_tt, ↓onG_tf, onG_tf, ↓onG_ft, onG_ft, ↓onG_ff, onG_ff, ↓onG_s, onG_s, ↓onT_t, onT_t, ↓aPick_t, aPick_t, ↓aPick_f, aPick_f, decide_true, decide_false, st_tmp, results1, results2, List.lookup_cons, List.lookup_nil, Nat.reduceBEq, Bool.false_eq_true, ↓reduceIte, BEq.rfl, Nat.reduceLT, Option.getD_some, Option.getD_none, ↓r53_0, r53_0, ↓r53_1, r53_1, ↓r53_2, r53_2, ↓r53_3, r53_3, ↓r53_4, r53_4, ↓r53_5, r53_5, ↓r53_6, r53_6, ↓r53_7, r53_7, ↓r53_8, r53_8, ↓r53_9, r53_9]
def land (l : List (List UInt8)) (ws : List (Nat × List UInt8)) : List (List UInt8) := ws.foldl (fun l w => l.set w.1 w.2) l
theorem land_length : ∀ (ws : List (Nat × List UInt8)) (l : List (List UInt8)), (land l ws).length = l.length
  | [], _ => rfl
  | w :: ws, l => by rw [land, List.foldl_cons]; exact (land_length ws _).trans (by simp)
theorem land_snoc (l : List (List UInt8)) (ws : List (Nat × List UInt8)) (w : Nat × List UInt8) : land l (ws ++ [w]) = (land l ws).set w.1 w.2 := by
  simp [land]
theorem land_cells : ∀ (ws : List (Nat × List UInt8)) (l : List (List UInt8)), (∀ b ∈ l, b.length = 64) → (∀ w ∈ ws, w.2.length = 64) → ∀ b ∈ land l ws, b.length = 64
  | [], _, h, _ => h
  | w :: ws, l, h, hw => by
    rw [land, List.foldl_cons]
    refine land_cells ws _ (fun b hb => ?_) fun v hv => hw v (List.mem_cons_of_mem _ hv)
    rcases List.mem_or_eq_of_mem_set hb with hb | rfl
    · exact h b hb
    · exact hw w List.mem_cons_self
def Dk.now (d : Dk) : List (List UInt8) := land d.lasts d.loose
def Dk.read (d : Dk) (i : Int) : List UInt8 × Int := if d.has i then ((d.now[i.toNat]?).getD [], 0) else ([], 1)
theorem fa91v_0 (w : Nat × List UInt8) : aFieldAddr tab 91 (.vptr 90 (writeAV w)) 0 = some (.vptr 3 (.int .i64 w.1)) := by simp [aFieldAddr, writeAV]
theorem fa91v_1 (w : Nat × List UInt8) : aFieldAddr tab 91 (.vptr 90 (writeAV w)) 1 = some (.vptr 88 (cellAV w.2)) := by simp [aFieldAddr, writeAV]
theorem load3v (h : Heap) (v : AV) : aLoad tab 3 (.vptr 3 v) h = some v := by simp [aLoad]
theorem read_loop {S U : Obs} {p r : Nat} {h : Heap} {d : Dk} (D : Dsk S h p r d) (up : Up U h) (hl : d.loose.length < 2 ^ 30) (i : Nat) (b : AV) (hb : ApB U h b ((d.lasts[i]?).getD [])) (N : Nat) (hi : i < d.lasts.length) :
    ∀ (m n : Nat), m ≤ d.loose.length → m < n →
    ∃ x' h', loopK (fun next => runK C0 (exFn C0 E0 (N + 1)) false 38 (N + 1) B38_1 (seqE next (blkE 0 (seqE (runK C0 (exFn C0 E0 (N + 1)) false 38 (N + 1) (.seq (.region 7 (O38 7) false) .ret) (retK [4, 5])) (retK [4, 5])))))
      n (st 48 [(0, dp p), (1, .int .i64 i), (6, b), (7, .int .i64 0), (8, .int .i64 ((m : Int) - 1))]) h = some (.tuple [x', .int .i64 0], h') ∧
      ApB U h' x' (((land d.lasts (d.loose.take m))[i]?).getD []) ∧ Keep U h h' := by
  obtain ⟨x, hx, ha⟩ := D.var
  intro m
  induction m with
  | zero =>
    intro n hm hn
    obtain ⟨n, rfl⟩ : ∃ j, n = j + 1 := ⟨n - 1, by omega⟩
    refine ⟨b, h, ?_, by simpa [land] using hb, Keep.refl _ _⟩
    rw [loopK_succ]
    generalize loopK (_ : (List AV → Heap → Option (AV × Heap)) → List AV → Heap → Option (AV × Heap)) n = Lp
    have e : decide ((0 : Int) ≤ ((0 : Nat) : Int) - 1) = false := by decide
    simp -implicitDefEqProofs only [B38_1, ↓runK_seq, runK_seq, ↓runK_cond, runK_cond, ↓runK_block, runK_block, ↓runK_loop, runK_loop, ↓runK_skip, runK_skip, ↓runK_ret, runK_ret, ↓runK_exit, runK_exit, ↓seqE_n, seqE_n, ↓seqE_e, seqE_e, ↓seqE_r, seqE_r, ↓blkE_n, blkE_n, ↓blkE_e, blkE_e, ↓blkE_r, blkE_r, ↓retK_n, retK_n, ↓retK_r, retK_r, ↓aCall_fn, aCall_fn, ↓bnd_s, bnd_s, ↓bnd2_s, bnd2_s, ↓onB_t, onB_t, ↓onB_f, onB_f, ↓onG_tt, onG_tt, ↓onG_tf, onG_tf, ↓onG_ft, onG_ft, ↓onG_ff, onG_ff, ↓onG_s, onG_s, ↓onT_t, onT_t, ↓aPick_t, aPick_t, ↓aPick_f, aPick_f, decide_true, decide_false, st_tmp, results1, results2, List.lookup_cons, List.lookup_nil, Nat.reduceBEq, Bool.false_eq_true, ↓reduceIte, BEq.rfl, Nat.reduceLT, Option.getD_some, Option.getD_none, ↓r38_0, r38_0, ↓r38_1, r38_1, ↓r38_2, r38_2, ↓r38_3, r38_3, J38_3_0, J38_3_1, J38_3_2, ↓r38_4, r38_4, ↓r38_5, r38_5, ↓r38_6, r38_6, ↓r38_7, r38_7, bin_geq, e]
  | succ m ih =>
    intro n hm hn
    obtain ⟨n, rfl⟩ : ∃ j, n = j + 1 := ⟨n - 1, by omega⟩
    have hlt : m < d.loose.length := by omega
    have hw : d.loose[m]? = some d.loose[m] := List.getElem?_eq_getElem hlt
    have hwl := D.loose _ (List.getElem_mem hlt)
    have e8 : (((m + 1 : Nat) : Int) - 1) = (m : Int) := by omega
    rw [e8]
    have e : decide ((0 : Int) ≤ (m : Int)) = true := decide_eq_true (by omega)
    have wr : IntKind.i64.wrap ((m : Int) - 1) = (m : Int) - 1 := by rw [wrap_i64] <;> omega
    have tk : d.loose.take (m + 1) = d.loose.take m ++ [d.loose[m]] := by rw [List.take_add_one, hw]; rfl
    rw [tk, land_snoc]
    generalize d.loose[m] = w at *
    by_cases hwi : w.1 = i
    · have e1 : decide (((w.1 : Nat) : Int) = (i : Nat)) = true := decide_eq_true (by omega)
      have bs : By U h (.vsl 5 (w.2.map U8) .none) w.2 := .inl (.inr ⟨_, rfl⟩)
      obtain ⟨x', h', h1, h2, h3⟩ := clone_ok bs (by omega) N
      have sl := sl89v (w.2.map U8) (by simp [hwl.2])
      have hc : ((((land d.lasts (d.loose.take m)).set w.1 w.2)[i]?).getD []) = w.2 := by
        rw [hwi, List.getElem?_set_self (by rw [land_length]; exact hi)]; rfl
      refine ⟨x', h', ?_, by rw [hc]; exact Ap.mono h2 fun j hj => up j hj, h3.up up⟩
      rw [loopK_succ]
      generalize loopK (_ : (List AV → Heap → Option (AV × Heap)) → List AV → Heap → Option (AV × Heap)) n = Lp
      simp -implicitDefEqProofs only [B38_1, ↓runK_seq, runK_seq, ↓runK_cond, runK_cond, ↓runK_block, runK_block, ↓runK_loop, runK_loop, ↓runK_skip, runK_skip, ↓runK_ret, runK_ret, ↓runK_exit, runK_exit, ↓seqE_n, seqE_n, ↓seqE_e, seqE_e, ↓seqE_r, seqE_r, ↓blkE_n, blkE_n, ↓blkE_e, blkE_e, ↓blkE_r, blkE_r, ↓retK_n, retK_n, ↓retK_r, retK_r, ↓aCall_fn, aCall_fn, ↓bnd_s, bnd_s, ↓bnd2_s, bnd2_s, ↓onB_t, onB_t, ↓onB_f, onB_f, ↓onG_tt, onG_tt, ↓onG_tf, onG_tf, ↓onG_ft, onG_ft, ↓onG_ff, onG_ff, ↓onG_s, onG_s, ↓onT_t, onT_t, ↓aPick_t, aPick_t, ↓aPick_f, aPick_f, decide_true, decide_false, st_tmp, results1, results2, List.lookup_cons, List.lookup_nil, Nat.reduceBEq, Bool.false_eq_true, ↓reduceIte, BEq.rfl, Nat.reduceLT, Option.getD_some, Option.getD_none, ↓r38_0, r38_0, ↓r38_1, r38_1, ↓r38_2, r38_2, ↓r38_3, r38_3, J38_3_0, J38_3_1, J38_3_2, ↓r38_4, r38_4, ↓r38_5, r38_5, ↓r38_6, r38_6, ↓r38_7, r38_7, bin_geq, e, bin_eql, dp_chk, dpf1, dld1 hx, idx82 ha hw, fa91v_0, load3v, e1, fa91v_1, cellAV, sl, h1]
    · have e1 : decide (((w.1 : Nat) : Int) = (i : Nat)) = false := decide_eq_false (by omega)
      obtain ⟨x', h', h1, h2, h3⟩ := ih n (by omega) (by omega)
      have hc : (((land d.lasts (d.loose.take m)).set w.1 w.2)[i]?) = (land d.lasts (d.loose.take m))[i]? := List.getElem?_set_ne hwi
      refine ⟨x', h', ?_, by rw [hc]; exact h2, h3⟩
      rw [loopK_succ, ← h1]
      generalize loopK (_ : (List AV → Heap → Option (AV × Heap)) → List AV → Heap → Option (AV × Heap)) n = Lp
      simp -implicitDefEqProofs only [B38_1, ↓runK_seq, runK_seq, ↓runK_cond, runK_cond, ↓runK_block, runK_block, ↓runK_loop, runK_loop, ↓runK_skip, runK_skip, ↓runK_ret, runK_ret, ↓runK_exit, runK_exit, ↓seqE_n, seqE_n, ↓seqE_e, seqE_e, ↓seqE_r, seqE_r, ↓blkE_n, blkE_n, ↓blkE_e, blkE_e, ↓blkE_r, blkE_r, ↓retK_n, retK_n, ↓retK_r, retK_r, ↓aCall_fn, aCall_fn, ↓bnd_s, bnd_s, ↓bnd2_s, bnd2_s, ↓onB_t, onB_t, ↓onB_f, onB_f, ↓onG_tt, onG_tt, ↓onG_tf, onG_tf, ↓onG_ft, onG_ft, ↓onG_ff, onG_ff, ↓onG_s, onG_s, ↓onT_t, onT_t, ↓aPick_t, aPick_t, ↓aPick_f, aPick_f, decide_true, decide_false, st_tmp, results1, results2, List.lookup_cons, List.lookup_nil, Nat.reduceBEq, Bool.false_eq_true, ↓reduceIte, BEq.rfl, Nat.reduceLT, Option.getD_some, Option.getD_none, ↓r38_0, r38_0, ↓r38_1, r38_1, ↓r38_2, r38_2, ↓r38_3, r38_3, J38_3_0, J38_3_1, J38_3_2, ↓r38_4, r38_4, ↓r38_5, r38_5, ↓r38_6, r38_6, ↓r38_7, r38_7, bin_geq, e, bin_eql, dp_chk, dpf1, dld1 hx, idx82 ha hw, fa91v_0, load3v, e1, bin_sub, wr]
theorem ext0 (x y : AV) : aExtract (.tuple [x, y]) 0 = some x := rfl
theorem ext1 (x y : AV) : aExtract (.tuple [x, y]) 1 = some y := rfl
theorem read_ok {S : Obs} {p r : Nat} {h : Heap} {d : Dk} (D : Dsk S h p r d) (hl : d.loose.length < 2 ^ 30) (i : Int) (k : Nat) (hk : d.loose.length + 5 < k) :
    ∃ x' h', exFn C0 E0 (k + 1) false 38 [dp p, .int .i64 i] h = some (.tuple [x', .int .i64 (d.read i).2], h') ∧ ApB (From h.length) h' x' (d.read i).1 ∧ Keep (From h.length) h h' := by
  have n0 : ([dp p, .int .i64 i] ++ List.replicate (48 - [dp p, .int .i64 i].length) AV.undef) = st 48 [(0, dp p), (1, .int .i64 i)] := rfl
  obtain ⟨k, rfl⟩ : ∃ j, k = j + 4 := ⟨k - 4, by omega⟩
  obtain ⟨b, h1, l1, l2, l3⟩ := lasts_ok D i (k + 1)
  have up := Up.fresh h
  have D1 := D.fresh l3
  obtain ⟨y, h2, p1, p2, p3⟩ := pending_ok D1 hl (k + 3) (by omega)
  have hlen := len93 p2
  simp only [List.length_map] at hlen
  have up1 := up.keep l3
  have l2' := l2.fresh p3
  have k2 := l3.fresh p3 up
  have wr : IntKind.i64.wrap ((d.loose.length : Int) - 1) = (d.loose.length : Int) - 1 := by rw [wrap_i64] <;> omega
  have D2 := D1.fresh p3
  unfold Dk.read
  by_cases h0 : d.has i
  · rw [if_pos h0]
    unfold Dk.lastsAt at l1 l2'
    rw [if_pos h0] at l1 l2'
    obtain ⟨n, rfl⟩ : ∃ n : Nat, i = n := ⟨i.toNat, by have := h0.1; omega⟩
    have hn : n < d.lasts.length := by have := h0.2; omega
    obtain ⟨x', h', q1, q2, q3⟩ := read_loop D2 (up1.keep p3) hl n b l2' (k + 3) hn d.loose.length (k + 4) (Nat.le_refl _) (by omega)
    rw [List.take_length] at q2
    refine ⟨x', h', exFn_of e38 ?_, q2, k2.trans q3⟩
    rw [fnK, n0, s38]
    simp -implicitDefEqProofs only [↓runK_seq, runK_seq, ↓runK_cond, runK_cond, ↓runK_block, runK_block, ↓runK_loop, runK_loop, ↓runK_skip, runK_skip, ↓runK_ret, runK_ret, ↓runK_exit, runK_exit, ↓seqE_n, seqE_n, ↓seqE_e, seqE_e, ↓seqE_r, seqE_r, ↓blkE_n, blkE_n, ↓blkE_e, blkE_e, ↓blkE_r, blkE_r, ↓retK_n, retK_n, ↓retK_r, retK_r, ↓aCall_fn, aCall_fn, ↓bnd_s, bnd_s, ↓bnd2_s, bnd2_s, ↓onB_t, onB_t, ↓onB_f, onB_f, ↓onG_tt, onG_tt, ↓onG_tf, onG_tf, ↓onG_ft, onG_ft, ↓onG_ff, onG_ff, ↓onG_s, onG_s, ↓onT_t, onT_t, ↓aPick_t, aPick_t, ↓aPick_f, aPick_f, decide_true, decide_false, st_tmp, results1, results2, List.lookup_cons, List.lookup_nil, Nat.reduceBEq, Bool.false_eq_true, ↓reduceIte, BEq.rfl, Nat.reduceLT, Option.getD_some, Option.getD_none, ↓r38_0, r38_0, ↓r38_1, r38_1, ↓r38_2, r38_2, ↓r38_3, r38_3, J38_3_0, J38_3_1, J38_3_2, ↓r38_4, r38_4, ↓r38_5, r38_5, ↓r38_6, r38_6, ↓r38_7, r38_7, l1, ext0, ext1, p1, hlen, bin_sub, wr]
    exact q1
  · rw [if_neg h0]
    unfold Dk.lastsAt at l1 l2'
    rw [if_neg h0] at l1 l2'
    refine ⟨b, h2, exFn_of e38 ?_, l2', k2⟩
    rw [fnK, n0, s38]
    simp -implicitDefEqProofs only [↓runK_seq, runK_seq, ↓runK_cond, runK_cond, ↓runK_block, runK_block, ↓runK_loop, runK_loop, ↓runK_skip, runK_skip, ↓runK_ret, runK_ret, ↓runK_exit, runK_exit, ↓seqE_n, seqE_n, ↓seqE_e, seqE_e, ↓seqE_r, seqE_r, ↓blkE_n, blkE_n, ↓blkE_e, blkE_e, ↓blkE_r, blkE_r, ↓retK_n, retK_n, ↓retK_r, retK_r, ↓aCall_fn, aCall_fn, ↓bnd_s, bnd_s, ↓bnd2_s, bnd2_s, ↓onB_t, onB_t, ↓onB_f, onB_f, ↓onG_tt, onG_tt, ↓onG_tf, onG_tf, ↓onG_ft, onG_ft, ↓onG_ff, onG_ff, ↓onG_s, onG_s, ↓onT_t, onT_t, ↓aPick_t, aPick_t, ↓aPick_f, aPick_f, decide_true, decide_false, st_tmp, results1, results2, List.lookup_cons, List.lookup_nil, Nat.reduceBEq, Bool.false_eq_true, ↓reduceIte, BEq.rfl, Nat.reduceLT, Option.getD_some, Option.getD_none, ↓r38_0, r38_0, ↓r38_1, r38_1, ↓r38_2, r38_2, ↓r38_3, r38_3, J38_3_0, J38_3_1, J38_3_2, ↓r38_4, r38_4, ↓r38_5, r38_5, ↓r38_6, r38_6, ↓r38_7, r38_7, l1, ext0, ext1, p1, hlen, bin_sub, wr]
    rw [loopK_succ]
    generalize loopK (_ : (List AV → Heap → Option (AV × Heap)) → List AV → Heap → Option (AV × Heap)) (k + 3) = Lp
    have e1 : aBinC tab .eql 27 (.int .i64 1) (.int .i64 0) true = some (.bool false) := by simp
    by_cases hm : (0 : Int) ≤ (d.loose.length : Int) - 1
    · have e : decide ((0 : Int) ≤ (d.loose.length : Int) - 1) = true := decide_eq_true hm
      simp -implicitDefEqProofs only [B38_1, ↓runK_seq, runK_seq, ↓runK_cond, runK_cond, ↓runK_block, runK_block, ↓runK_loop, runK_loop, ↓runK_skip, runK_skip, ↓runK_ret, runK_ret, ↓runK_exit, runK_exit, ↓seqE_n, seqE_n, ↓seqE_e, seqE_e, ↓seqE_r, seqE_r, ↓blkE_n, blkE_n, ↓blkE_e, blkE_e, ↓blkE_r, blkE_r, ↓retK_n, retK_n, ↓retK_r, retK_r, ↓aCall_fn, aCall_fn, ↓bnd_s, bnd_s, ↓bnd2_s, bnd2_s, ↓onB_t, onB_t, ↓onB_f, onB_f, ↓onG_tt, onG_tt, ↓onG_tf, onG_tf, ↓onG_ft, onG_ft, ↓onG_ff, onG_ff, ↓onG_s, onG_s, ↓onT_t, onT_t, ↓aPick_t, aPick_t, ↓aPick_f, aPick_f, decide_true, decide_false, st_tmp, results1, results2, List.lookup_cons, List.lookup_nil, Nat.reduceBEq, Bool.false_eq_true, ↓reduceIte, BEq.rfl, Nat.reduceLT, Option.getD_some, Option.getD_none, ↓r38_0, r38_0, ↓r38_1, r38_1, ↓r38_2, r38_2, ↓r38_3, r38_3, J38_3_0, J38_3_1, J38_3_2, ↓r38_4, r38_4, ↓r38_5, r38_5, ↓r38_6, r38_6, ↓r38_7, r38_7, bin_geq, e, e1]
    · have e : decide ((0 : Int) ≤ (d.loose.length : Int) - 1) = false := decide_eq_false hm
      simp -implicitDefEqProofs only [B38_1, ↓runK_seq, runK_seq, ↓runK_cond, runK_cond, ↓runK_block, runK_block, ↓runK_loop, runK_loop, ↓runK_skip, runK_skip, ↓runK_ret, runK_ret, ↓runK_exit, runK_exit, ↓seqE_n, seqE_n, ↓seqE_e, seqE_e, ↓seqE_r, seqE_r, ↓blkE_n, blkE_n, ↓blkE_e, blkE_e, ↓blkE_r, blkE_r, ↓retK_n, retK_n, ↓retK_r, retK_r, ↓aCall_fn, aCall_fn, ↓bnd_s, bnd_s, ↓bnd2_s, bnd2_s, ↓onB_t, onB_t, ↓onB_f, onB_f, ↓onG_tt, onG_tt, ↓onG_tf, onG_tf, ↓onG_ft, onG_ft, ↓onG_ff, onG_ff, ↓onG_s, onG_s, ↓onT_t, onT_t, ↓aPick_t, aPick_t, ↓aPick_f, aPick_f, decide_true, decide_false, st_tmp, results1, results2, List.lookup_cons, List.lookup_nil, Nat.reduceBEq, Bool.false_eq_true, ↓reduceIte, BEq.rfl, Nat.reduceLT, Option.getD_some, Option.getD_none, ↓r38_0, r38_0, ↓r38_1, r38_1, ↓r38_2, r38_2, ↓r38_3, r38_3, J38_3_0, J38_3_1, J38_3_2, ↓r38_4, r38_4, ↓r38_5, r38_5, ↓r38_6, r38_6, ↓r38_7, r38_7, bin_geq, e]
end Go.Ax

set_option linter.unusedVariables false
namespace Go.Ax
open Go Go.Proofs
noncomputable def O18 (i : Nat) : Array Oper := opsOf i (bodyOf Try.f18)
noncomputable def B18_1 : Code := (.seq (.region 6 (O18 6) false) (.seq (.cond (Go.Operand.tmp 18) .skip (.exit 1)) (.seq (.block 2 (.seq (.region 7 (O18 7) false) (.region 8 (O18 8) true))) (.region 9 (O18 9) false))))
theorem s18 : bodyOf Try.f18 = (.seq (.region 0 (O18 0) false) (.seq (.block 0 (.seq (.region 1 (O18 1) false) (.cond (Go.Operand.tmp 5) (.seq (.region 2 (O18 2) false) .ret) (.seq (.region 3 (O18 3) false) (.cond (Go.Operand.tmp 8) (.seq (.region 4 (O18 4) false) .ret) .skip))))) (.seq (.seq (.region 5 (O18 5) false) (.block 1 (.loop B18_1))) (.seq (.region 10 (O18 10) false) (.seq (.region 11 (O18 11) false) .ret))))) := by kernel_rfl
theorem e18 : E0 18 = some ⟨34, [2], bodyOf Try.f18⟩ := by kernel_rfl
theorem r18_0 {β : Type} (call : CallF) (md : Bool) (n : Nat) (k : Ex → List AV → Heap → Option β) (x0 : AV) (h : Heap) :
    runK C0 call md 18 n (.region 0 (O18 0) false) k (st 34 [(0, x0)]) h =
    k .normal (st 34 [(0, x0)]) h
  := by kernel_rfl
theorem r18_1 {β : Type} (call : CallF) (md : Bool) (n : Nat) (k : Ex → List AV → Heap → Option β) (x0 : AV) (h : Heap) :
    runK C0 call md 18 n (.region 1 (O18 1) false) k (st 34 [(0, x0)]) h =
    bnd (aBinC tab .eql 25 x0 .nilp true) fun v1 =>
    k .normal (st 34 [(0, x0), (5, v1)]) h
  := by kernel_rfl
theorem r18_2 {β : Type} (call : CallF) (md : Bool) (n : Nat) (k : Ex → List AV → Heap → Option β) (x0 x5 : AV) (h : Heap) :
    runK C0 call md 18 n (.region 2 (O18 2) false) k (st 34 [(0, x0), (5, x5)]) h =
    k .normal (st 34 [(2, (.int .i64 1))]) h
  := by kernel_rfl
theorem r18_3 {β : Type} (call : CallF) (md : Bool) (n : Nat) (k : Ex → List AV → Heap → Option β) (x0 x5 : AV) (h : Heap) :
    runK C0 call md 18 n (.region 3 (O18 3) false) k (st 34 [(0, x0), (5, x5)]) h =
    bnd2 (aCall call md (.fn (.func 50) []) [x0] h) fun v1 h2 =>
    bnd (aUn .not v1) fun v3 =>
    k .normal (st 34 [(0, x0), (8, v3)]) h2
  := by kernel_rfl
theorem r18_4 {β : Type} (call : CallF) (md : Bool) (n : Nat) (k : Ex → List AV → Heap → Option β) (x0 x8 : AV) (h : Heap) :
    runK C0 call md 18 n (.region 4 (O18 4) false) k (st 34 [(0, x0), (8, x8)]) h =
    k .normal (st 34 [(2, (.int .i64 4))]) h
  := by kernel_rfl
theorem r18_5 {β : Type} (call : CallF) (md : Bool) (n : Nat) (k : Ex → List AV → Heap → Option β) (x0 x8 : AV) (h : Heap) :
    runK C0 call md 18 n (.region 5 (O18 5) false) k (st 34 [(0, x0), (8, x8)]) h =
    bnd (aNil x0) fun v1 =>
    bnd (aFieldAddr tab 84 v1 1) fun v2 =>
    bnd (aLoad tab 82 v2 h) fun v3 =>
    bnd (aLen tab 82 v3) fun v4 =>
    k .normal (st 34 [(0, x0), (15, v3), (16, v4), (17, (.int .i64 0))]) h
  := by kernel_rfl
theorem r18_6 {β : Type} (call : CallF) (md : Bool) (n : Nat) (k : Ex → List AV → Heap → Option β) (x0 x15 x16 x17 : AV) (h : Heap) :
    runK C0 call md 18 n (.region 6 (O18 6) false) k (st 34 [(0, x0), (15, x15), (16, x16), (17, x17)]) h =
    bnd (aBinC tab .lss 3 x17 x16 false) fun v1 =>
    k .normal (st 34 [(0, x0), (15, x15), (16, x16), (17, x17), (18, v1)]) h
  := by kernel_rfl
theorem r18_7 {β : Type} (call : CallF) (md : Bool) (n : Nat) (k : Ex → List AV → Heap → Option β) (x0 x15 x16 x17 x18 : AV) (h : Heap) :
    runK C0 call md 18 n (.region 7 (O18 7) false) k (st 34 [(0, x0), (15, x15), (16, x16), (17, x17), (18, x18)]) h =
    bnd (aIndexAddr tab 82 x15 x17) fun v1 =>
    bnd (aLoad tab 91 v1 h) fun v2 =>
    bnd2 (aAlloc tab 91 h) fun v3 h4 =>
    bnd (aStore tab 91 v3 v2 h4) fun h5 =>
    k .normal (st 34 [(0, x0), (4, v3), (15, x15), (16, x16), (17, x17)]) h5
  := by kernel_rfl
theorem r18_8 {β : Type} (call : CallF) (md : Bool) (n : Nat) (k : Ex → List AV → Heap → Option β) (x0 x4 x15 x16 x17 : AV) (h : Heap) :
    runK C0 call md 18 n (.region 8 (O18 8) true) k (st 34 [(0, x0), (4, x4), (15, x15), (16, x16), (17, x17)]) h =
    bnd (aNil x0) fun v1 =>
    bnd (aFieldAddr tab 84 v1 0) fun v2 =>
    bnd (aLoad tab 81 v2 h) fun v3 =>
    bnd (aFieldAddr tab 91 x4 0) fun v4 =>
    bnd (aLoad tab 3 v4 h) fun v5 =>
    bnd (aFieldAddr tab 91 x4 1) fun v6 =>
    bnd (aLoad tab 89 v6 h) fun v7 =>
    bnd (aIndexAddr tab 81 v3 v5) fun v8 =>
    bnd (aStore tab 89 v8 v7 h) fun h9 =>
    k .normal (st 34 [(0, x0), (15, x15), (16, x16), (17, x17)]) h9
  := by kernel_rfl
theorem r18_9 {β : Type} (call : CallF) (md : Bool) (n : Nat) (k : Ex → List AV → Heap → Option β) (x0 x15 x16 x17 : AV) (h : Heap) :
    runK C0 call md 18 n (.region 9 (O18 9) false) k (st 34 [(0, x0), (15, x15), (16, x16), (17, x17)]) h =
    bnd (aBinC tab .add 3 x17 (.int .i64 1) true) fun v1 =>
    k .normal (st 34 [(0, x0), (15, x15), (16, x16), (17, v1)]) h
  := by kernel_rfl
theorem r18_10 {β : Type} (call : CallF) (md : Bool) (n : Nat) (k : Ex → List AV → Heap → Option β) (x0 x15 x16 x17 x18 : AV) (h : Heap) :
    runK C0 call md 18 n (.region 10 (O18 10) false) k (st 34 [(0, x0), (15, x15), (16, x16), (17, x17), (18, x18)]) h =
    bnd (aNil x0) fun v1 =>
    bnd (aFieldAddr tab 84 v1 1) fun v2 =>
    bnd (aStore tab 82 v2 .nils h) fun h3 =>
    k .normal (st 34 []) h3
  := by kernel_rfl
theorem r18_11 {β : Type} (call : CallF) (md : Bool) (n : Nat) (k : Ex → List AV → Heap → Option β) (h : Heap) :
    runK C0 call md 18 n (.region 11 (O18 11) false) k (st 34 []) h =
    k .normal (st 34 [(2, (.int .i64 0))]) h
  := by kernel_rfl
end Go.Ax

namespace Go.Ax
open Go Go.Proofs
def newN (n : Int) : Nat := (min (max n 0) 1024).toNat
def Dk.new (n : Int) : Dk := ⟨List.replicate (newN n) (List.replicate 64 0), [], -1, false⟩
theorem bld84a (r n : Nat) : aBuild tab 84 [(0, .msl r [] 88 0 n), (2, .int .i64 (-1))] = some (.agg 83 [.msl r [] 88 0 n, .nils, .int .i64 (-1), .bool false]) := by kernel_rfl
theorem bld84b : aBuild tab 84 [(0, .vsl 88 [] .none), (2, .int .i64 (-1))] = some (.agg 83 [.vsl 88 [] .none, .nils, .int .i64 (-1), .bool false]) := by kernel_rfl
theorem bld84 (r n : Nat) : aBuild tab 84 [(0, lastsAV r n), (2, .int .i64 (-1))] = some (.agg 83 [lastsAV r n, .nils, .int .i64 (-1), .bool false]) := by
  unfold lastsAV
  split
  · exact bld84b
  · exact bld84a r n
theorem box84 (v : AV) (fs : List AV) (hv : v = .agg 83 fs) (h : Heap) : aBoxv tab 84 v h = some (.ref h.length [] 83, h ++ [.var 84 v]) := by
  subst hv; simp [aBoxv, fits]
theorem make81 (n : Nat) (hn : n ≤ 1024) (h : Heap) : aMake tab 81 (.int .i64 n) (.int .i64 n) h =
    some (lastsAV h.length n, if n = 0 then h else h ++ [.row 88 (List.replicate n (cellAV (List.replicate 64 0)))]) := by
  have e : aZeros tab 81 (.int .i64 n) (.int .i64 n) = some (88, n, n, cellAV (List.replicate 64 0)) := by
    simp only [aZeros, td81, tb89, tz89, tu89]
    rw [if_pos ⟨by omega, by omega, by omega, by omega⟩]
    simp [cellAV, U8]
  simp only [aMake, e, Option.map_some, lastsAV]
  split <;> rfl
theorem new_ok (n : Int) (h : Heap) (md : Bool) (k : Nat) :
    ∃ p r h', exFn C0 E0 (k + 1) md 13 [.int .i64 n] h = some (dp p, h') ∧ Dsk (From h.length) h' p r (Dk.new n) ∧ Keep (From h.length) h h' := by
  have n0 : ([AV.int .i64 n] ++ List.replicate (9 - [AV.int .i64 n].length) AV.undef) = st 9 [(0, .int .i64 n)] := rfl
  have em : (if (1024 : Int) < (if n < 0 then 0 else n) then 1024 else (if n < 0 then 0 else n)) = (newN n : Nat) := by
    unfold newN; split <;> split <;> omega
  have hN : newN n ≤ 1024 := by unfold newN; omega
  let h1 : Heap := if newN n = 0 then h else h ++ [.row 88 (List.replicate (newN n) (cellAV (List.replicate 64 0)))]
  have k1 : Keep (From h.length) h h1 := by
    simp only [h1]
    split
    · exact Keep.refl _ _
    · exact Keep.app h _ (Up.fresh h)
  have hr : newN n ≠ 0 → h1[h.length]? = some (.row 88 (List.replicate (newN n) (cellAV (List.replicate 64 0)))) := fun hn => by
    simp only [h1]; rw [if_neg hn]; simp
  have mk := make81 (newN n) hN h
  rw [show (if newN n = 0 then h else h ++ [Obj.row 88 (List.replicate (newN n) (cellAV (List.replicate 64 0)))]) = h1 from rfl] at mk
  clear_value h1
  have bx := box84 (.agg 83 [lastsAV h.length (newN n), .nils, .int .i64 (-1), .bool false]) _ rfl h1
  refine ⟨h1.length, h.length, h1 ++ [.var 84 (.agg 83 [lastsAV h.length (newN n), .nils, .int .i64 (-1), .bool false])], exFn_of e13 ?_, ?_, k1.trans (Keep.app h1 _ ((Up.fresh h).keep k1))⟩
  · rw [fnK, n0, s13]
    simp -implicitDefEqProofs only [↓runK_seq, runK_seq, ↓runK_cond, runK_cond, ↓runK_block, runK_block, ↓runK_loop, runK_loop, ↓runK_skip, runK_skip, ↓runK_ret, runK_ret, ↓runK_exit, runK_exit, ↓seqE_n, seqE_n, ↓seqE_e, seqE_e, ↓seqE_r, seqE_r, ↓blkE_n, blkE_n, ↓blkE_e, blkE_e, ↓blkE_r, blkE_r, ↓retK_n, retK_n, ↓retK_r, retK_r, ↓aCall_fn, aCall_fn, ↓bnd_s, bnd_s, ↓bnd2_s, bnd2_s, ↓onB_t, onB_t, ↓onB_f, onB_f, ↓onG_tt, onG_tt, ↓onG_tf, onG_tf, ↓onG_ft, onG_ft, ↓onG_ff, onG_ff, ↓onG_s, onG_s, ↓onT_t, onT_t, ↓aPick_t, aPick_t, ↓aPick_f, aPick_f, decide_true, decide_false, st_tmp, results1, results2, List.lookup_cons, List.lookup_nil, Nat.reduceBEq, Bool.false_eq_true, ↓reduceIte, BEq.rfl, Nat.reduceLT, Option.getD_some, Option.getD_none, ↓r13_0, r13_0, ↓r13_1, r13_1, max2_i64, min2_i64, em, mk, bld84, bx]
  · refine ⟨k1.1, fun _ => Nat.le_refl _, ⟨.nils, by simp [dv, Dk.new], .inl ⟨rfl, rfl⟩⟩, fun hne => ?_, fun b hb => ?_, fun w hw => by simp [Dk.new] at hw, by simpa [Dk.new] using hN⟩
    · have hn : newN n ≠ 0 := by intro e; apply hne; simp [Dk.new, e]
      have := hr hn
      rw [List.getElem?_append_left (List.getElem?_eq_some_iff.1 this).1, this]
      simp [Dk.new]
    · simp only [Dk.new, List.mem_replicate] at hb
      rw [hb.2]; simp
def Dk.flush (d : Dk) : Int × Dk := if d.burn.down then (4, d.burn) else (0, ⟨d.now, [], d.burn.fuse, d.burn.down⟩)
theorem fits89 (c : List UInt8) : fits tab 89 (cellAV c) = true := by kernel_rfl
theorem store_cell {h : Heap} {r i : Nat} {l : List (List UInt8)} {c : List UInt8} (hr : h[r]? = some (.row 88 (l.map cellAV))) (hi : i < l.length) :
    aStore tab 89 (.ref r [i] 88) (cellAV c) h = some (h.set r (.row 88 ((l.set i c).map cellAV))) := by
  simp [aStore, fits89, hr, objSet, setP, hi, List.map_set]
theorem flush_loop {S : Obs} {h0 : Heap} {p r : Nat} {y : AV} {lasts : List (List UInt8)} {L : List (Nat × List UInt8)} {f : Int} {w : Bool} (hy : Ap 90 S h0 y (L.map writeAV)) (hL : L.length < 2 ^ 30)
    (hws : ∀ w ∈ L, w.1 < lasts.length) (hs : lasts ≠ [] → S r) (call : CallF) (N : Nat) (md : Bool) :
    ∀ (m i n : Nat) (h : Heap), i + m = L.length → m < n → Up S h → h[p]? = some (dv r lasts.length y f w) → (lasts ≠ [] → h[r]? = some (.row 88 ((land lasts (L.take i)).map cellAV))) →
    ∃ h', (∀ K : Ex → List AV → Heap → Option (AV × Heap), loopK (fun next => runK C0 call md 18 N B18_1 (seqE next K)) n (st 34 [(0, dp p), (15, y), (16, .int .i64 L.length), (17, .int .i64 i)]) h =
      K (.exit 1) (st 34 [(0, dp p), (15, y), (16, .int .i64 L.length), (17, .int .i64 L.length), (18, .bool false)]) h') ∧
      h'[p]? = some (dv r lasts.length y f w) ∧ (lasts ≠ [] → h'[r]? = some (.row 88 ((land lasts L).map cellAV))) ∧ Keep S h h' := by
  intro m
  induction m with
  | zero =>
    intro i n h hi hn up hp hr
    obtain ⟨n, rfl⟩ : ∃ j, n = j + 1 := ⟨n - 1, by omega⟩
    obtain rfl : i = L.length := by omega
    refine ⟨h, fun K => ?_, hp, by simpa using hr, Keep.refl _ _⟩
    rw [loopK_succ]
    generalize loopK (_ : (List AV → Heap → Option (AV × Heap)) → List AV → Heap → Option (AV × Heap)) n = Lp
    have e : decide (((L.length : Nat) : Int) < (L.length : Nat)) = false := decide_eq_false (by omega)
    simp -implicitDefEqProofs only [B18_1, ↓runK_seq, runK_seq, ↓runK_cond, runK_cond, ↓runK_block, runK_block, ↓runK_loop, runK_loop, ↓runK_skip, runK_skip, ↓runK_ret, runK_ret, ↓runK_exit, runK_exit, ↓seqE_n, seqE_n, ↓seqE_e, seqE_e, ↓seqE_r, seqE_r, ↓blkE_n, blkE_n, ↓blkE_e, blkE_e, ↓blkE_r, blkE_r, ↓retK_n, retK_n, ↓retK_r, retK_r, ↓aCall_fn, aCall_fn, ↓bnd_s, bnd_s, ↓bnd2_s, bnd2_s, ↓onB_t, onB_t, ↓onB_f, onB_f, ↓onG_tt, onG_tt, ↓onG_tf, onG_tf, ↓onG_ft, onG_ft, ↓onG_ff, onG_ff, ↓onG_s, onG_s, ↓onT_t, onT_t, ↓aPick_t, aPick_t, ↓aPick_f, aPick_f, decide_true, decide_false, st_tmp, results1, results2, List.lookup_cons, List.lookup_nil, Nat.reduceBEq, Bool.false_eq_true, ↓reduceIte, BEq.rfl, Nat.reduceLT, Option.getD_some, Option.getD_none, ↓r18_0, r18_0, ↓r18_1, r18_1, ↓r18_2, r18_2, ↓r18_3, r18_3, ↓r18_4, r18_4, ↓r18_5, r18_5, ↓r18_6, r18_6, ↓r18_7, r18_7, ↓r18_8, r18_8, ↓r18_9, r18_9, ↓r18_10, r18_10, ↓r18_11, r18_11, bin_lss, e]
  | succ m ih =>
    intro i n h hi hn up hp hr
    obtain ⟨n, rfl⟩ : ∃ j, n = j + 1 := ⟨n - 1, by omega⟩
    have hlt : i < L.length := by omega
    have hw : L[i]? = some L[i] := List.getElem?_eq_getElem hlt
    have hwl := hws _ (List.getElem_mem hlt)
    have tk : L.take (i + 1) = L.take i ++ [L[i]] := by rw [List.take_add_one, hw]; rfl
    have e : decide (((i : Nat) : Int) < (L.length : Nat)) = true := decide_eq_true (by omega)
    have wr : IntKind.i64.wrap ((i : Int) + 1) = ((i + 1 : Nat) : Int) := by rw [wrap_i64] <;> omega
    generalize L[i] = v at *
    have hne : lasts ≠ [] := by intro e; rw [e] at hwl; simp at hwl
    have k1 : Keep (From h.length) h (h ++ [.var 91 (writeAV v)]) := Keep.app h _ (Up.fresh h)
    have hq : (h ++ [.var 91 (writeAV v)])[h.length]? = some (.var 91 (writeAV v)) := by simp
    have hsn := sn91 h v
    have hp1 : (h ++ [.var 91 (writeAV v)])[p]? = some (dv r lasts.length y f w) := by rw [List.getElem?_append_left (List.getElem?_eq_some_iff.1 hp).1]; exact hp
    have hr1 : (h ++ [.var 91 (writeAV v)])[r]? = some (.row 88 ((land lasts (L.take i)).map cellAV)) := by rw [List.getElem?_append_left (List.getElem?_eq_some_iff.1 (hr hne)).1]; exact hr hne
    have kk := k1.up up
    generalize h ++ [Obj.var 91 (writeAV v)] = H at *
    have sc := store_cell (c := v.2) hr1 (by rw [land_length]; exact hwl)
    have hrp : r ≠ p := by intro e; subst e; rw [hp1] at hr1; cases hr1
    have k2 : Keep S H (H.set r (.row 88 (((land lasts (L.take i)).set v.1 v.2).map cellAV))) := Keep.set H _ (hs hne)
    have hp2 : (H.set r (.row 88 (((land lasts (L.take i)).set v.1 v.2).map cellAV)))[p]? = some (dv r lasts.length y f w) := by rw [List.getElem?_set_ne hrp]; exact hp1
    have hr2 : (H.set r (.row 88 (((land lasts (L.take i)).set v.1 v.2).map cellAV)))[r]? = some (.row 88 ((land lasts (L.take (i + 1))).map cellAV)) := by
      rw [tk, land_snoc]; simp [(List.getElem?_eq_some_iff.1 hr1).1]
    obtain ⟨h', h1, h2, h3, h4⟩ := ih (i + 1) n _ (by omega) (by omega) ((up.keep kk).keep k2) hp2 (fun _ => hr2)
    refine ⟨h', fun K => ?_, h2, h3, (kk.trans k2).trans h4⟩
    rw [loopK_succ, ← h1 K]
    generalize loopK (_ : (List AV → Heap → Option (AV × Heap)) → List AV → Heap → Option (AV × Heap)) n = Lp
    simp -implicitDefEqProofs only [B18_1, ↓runK_seq, runK_seq, ↓runK_cond, runK_cond, ↓runK_block, runK_block, ↓runK_loop, runK_loop, ↓runK_skip, runK_skip, ↓runK_ret, runK_ret, ↓runK_exit, runK_exit, ↓seqE_n, seqE_n, ↓seqE_e, seqE_e, ↓seqE_r, seqE_r, ↓blkE_n, blkE_n, ↓blkE_e, blkE_e, ↓blkE_r, blkE_r, ↓retK_n, retK_n, ↓retK_r, retK_r, ↓aCall_fn, aCall_fn, ↓bnd_s, bnd_s, ↓bnd2_s, bnd2_s, ↓onB_t, onB_t, ↓onB_f, onB_f, ↓onG_tt, onG_tt, ↓onG_tf, onG_tf, ↓onG_ft, onG_ft, ↓onG_ff, onG_ff, ↓onG_s, onG_s, ↓onT_t, onT_t, ↓aPick_t, aPick_t, ↓aPick_f, aPick_f, decide_true, decide_false, st_tmp, results1, results2, List.lookup_cons, List.lookup_nil, Nat.reduceBEq, Bool.false_eq_true, ↓reduceIte, BEq.rfl, Nat.reduceLT, Option.getD_some, Option.getD_none, ↓r18_0, r18_0, ↓r18_1, r18_1, ↓r18_2, r18_2, ↓r18_3, r18_3, ↓r18_4, r18_4, ↓r18_5, r18_5, ↓r18_6, r18_6, ↓r18_7, r18_7, ↓r18_8, r18_8, ↓r18_9, r18_9, ↓r18_10, r18_10, ↓r18_11, r18_11, bin_lss, e, idx82 hy hw, load91v, alloc91, hsn, dp_chk, dpf0, dld0 hp1, fa91_0, wld0 hq, fa91_1, wld1 hq, idx81 r _ v.1 hwl, sc, bin_add, wr]
theorem flush_ok {S : Obs} {p r : Nat} {h : Heap} {d : Dk} (D : Dsk S h p r d) (up : Up S h) (hl : d.loose.length < 2 ^ 30) (hf : d.fuse < 2 ^ 63) (md : Bool) (k : Nat) (hk : d.loose.length < k) :
    ∃ h', exFn C0 E0 (k + 1) md 18 [dp p] h = some (.int .i64 d.flush.1, h') ∧ Dsk S h' p r d.flush.2 ∧ Keep S h h' := by
  have n0 : ([dp p] ++ List.replicate (34 - [dp p].length) AV.undef) = st 34 [(0, dp p)] := rfl
  obtain ⟨k, rfl⟩ : ∃ j, k = j + 1 := ⟨k - 1, by omega⟩
  obtain ⟨h1, b1, D1, k1, -, -⟩ := burn_ok D hf md k
  unfold Dk.flush
  cases hdn : d.burn.down
  case true =>
    rw [hdn] at b1
    refine ⟨h1, exFn_of e18 ?_, D1, k1⟩
    rw [fnK, n0, s18]
    simp -implicitDefEqProofs only [↓runK_seq, runK_seq, ↓runK_cond, runK_cond, ↓runK_block, runK_block, ↓runK_loop, runK_loop, ↓runK_skip, runK_skip, ↓runK_ret, runK_ret, ↓runK_exit, runK_exit, ↓seqE_n, seqE_n, ↓seqE_e, seqE_e, ↓seqE_r, seqE_r, ↓blkE_n, blkE_n, ↓blkE_e, blkE_e, ↓blkE_r, blkE_r, ↓retK_n, retK_n, ↓retK_r, retK_r, ↓aCall_fn, aCall_fn, ↓bnd_s, bnd_s, ↓bnd2_s, bnd2_s, ↓onB_t, onB_t, ↓onB_f, onB_f, ↓onG_tt, onG_tt, ↓onG_tf, onG_tf, ↓onG_ft, onG_ft, ↓onG_ff, onG_ff, ↓onG_s, onG_s, ↓onT_t, onT_t, ↓aPick_t, aPick_t, ↓aPick_f, aPick_f, decide_true, decide_false, st_tmp, results1, results2, List.lookup_cons, List.lookup_nil, Nat.reduceBEq, Bool.false_eq_true, ↓reduceIte, BEq.rfl, Nat.reduceLT, Option.getD_some, Option.getD_none, ↓r18_0, r18_0, ↓r18_1, r18_1, ↓r18_2, r18_2, ↓r18_3, r18_3, ↓r18_4, r18_4, ↓r18_5, r18_5, ↓r18_6, r18_6, ↓r18_7, r18_7, ↓r18_8, r18_8, ↓r18_9, r18_9, ↓r18_10, r18_10, ↓r18_11, r18_11, dp_nil, b1, un_not, Bool.not_true, Bool.not_false]
  case false =>
    rw [if_neg Bool.false_ne_true]
    rw [hdn] at b1
    obtain ⟨x, hx, ha⟩ := D1.var
    have hx' : h1[p]? = some (dv r d.lasts.length x d.burn.fuse d.burn.down) := hx
    rw [hdn] at hx'
    have hlen := len82 ha
    rw [List.length_map] at hlen
    have up1 := up.keep k1
    obtain ⟨h2, f1, f2, f3, f4⟩ := flush_loop (f := d.burn.fuse) (w := false) ha hl (fun w hw => (D1.loose w hw).1) D1.hr (exFn C0 E0 (k + 1)) (k + 1) md d.loose.length 0 (k + 1) h1 (by simp [Dk.burn]) (by omega) up1 hx'
      (fun hne => by simpa [land] using D1.row hne)
    rw [show ((0 : Nat) : Int) = 0 from rfl] at f1
    rw [show d.burn.loose = d.loose from rfl] at f1 f3 hlen
    have hlt : p < h2.length := (List.getElem?_eq_some_iff.1 f2).1
    refine ⟨h2.set p (dv r d.lasts.length .nils d.burn.fuse false), exFn_of e18 ?_, ?_, (k1.trans f4).trans (Keep.set h2 _ D.hp)⟩
    · rw [fnK, n0, s18]
      simp -implicitDefEqProofs only [↓runK_seq, runK_seq, ↓runK_cond, runK_cond, ↓runK_block, runK_block, ↓runK_loop, runK_loop, ↓runK_skip, runK_skip, ↓runK_ret, runK_ret, ↓runK_exit, runK_exit, ↓seqE_n, seqE_n, ↓seqE_e, seqE_e, ↓seqE_r, seqE_r, ↓blkE_n, blkE_n, ↓blkE_e, blkE_e, ↓blkE_r, blkE_r, ↓retK_n, retK_n, ↓retK_r, retK_r, ↓aCall_fn, aCall_fn, ↓bnd_s, bnd_s, ↓bnd2_s, bnd2_s, ↓onB_t, onB_t, ↓onB_f, onB_f, ↓onG_tt, onG_tt, ↓onG_tf, onG_tf, ↓onG_ft, onG_ft, ↓onG_ff, onG_ff, ↓onG_s, onG_s, ↓onT_t, onT_t, ↓aPick_t, aPick_t, ↓aPick_f, aPick_f, decide_true, decide_false, st_tmp, results1, results2, List.lookup_cons, List.lookup_nil, Nat.reduceBEq, Bool.false_eq_true, ↓reduceIte, BEq.rfl, Nat.reduceLT, Option.getD_some, Option.getD_none, ↓r18_0, r18_0, ↓r18_1, r18_1, ↓r18_2, r18_2, ↓r18_3, r18_3, ↓r18_4, r18_4, ↓r18_5, r18_5, ↓r18_6, r18_6, ↓r18_7, r18_7, ↓r18_8, r18_8, ↓r18_9, r18_9, ↓r18_10, r18_10, ↓r18_11, r18_11, dp_nil, b1, un_not, Bool.not_true, Bool.not_false, dp_chk, dpf1, dld1 hx', hlen]
      rw [f1]
      simp -implicitDefEqProofs only [↓runK_seq, runK_seq, ↓runK_cond, runK_cond, ↓runK_block, runK_block, ↓runK_loop, runK_loop, ↓runK_skip, runK_skip, ↓runK_ret, runK_ret, ↓runK_exit, runK_exit, ↓seqE_n, seqE_n, ↓seqE_e, seqE_e, ↓seqE_r, seqE_r, ↓blkE_n, blkE_n, ↓blkE_e, blkE_e, ↓blkE_r, blkE_r, ↓retK_n, retK_n, ↓retK_r, retK_r, ↓aCall_fn, aCall_fn, ↓bnd_s, bnd_s, ↓bnd2_s, bnd2_s, ↓onB_t, onB_t, ↓onB_f, onB_f, ↓onG_tt, onG_tt, ↓onG_tf, onG_tf, ↓onG_ft, onG_ft, ↓onG_ff, onG_ff, ↓onG_s, onG_s, ↓onT_t, onT_t, ↓aPick_t, aPick_t, ↓aPick_f, aPick_f, decide_true, decide_false, st_tmp, results1, results2, List.lookup_cons, List.lookup_nil, Nat.reduceBEq, Bool.false_eq_true, ↓reduceIte, BEq.rfl, Nat.reduceLT, Option.getD_some, Option.getD_none, ↓r18_0, r18_0, ↓r18_1, r18_1, ↓r18_2, r18_2, ↓r18_3, r18_3, ↓r18_4, r18_4, ↓r18_5, r18_5, ↓r18_6, r18_6, ↓r18_7, r18_7, ↓r18_8, r18_8, ↓r18_9, r18_9, ↓r18_10, r18_10, ↓r18_11, r18_11, dp_chk, dpf1, dst1 f2 (y := .nils) rfl]
      rfl
    · have hnl : d.now.length = d.lasts.length := land_length _ _
      refine ⟨D.hp, fun hne => D.hr (by intro e; apply hne; simpa [e] using hnl), ⟨.nils, ?_, .inl ⟨rfl, rfl⟩⟩, fun hne => ?_, land_cells _ _ D.cells fun w hw => (D.loose w hw).2, fun w hw => (List.not_mem_nil hw).elim, by rw [hnl]; exact D.few⟩
      · rw [List.getElem?_set_self hlt, hnl]
      · have hne' : d.lasts ≠ [] := by intro e; apply hne; simpa [e] using hnl
        have hr := f3 hne'
        rw [List.getElem?_set_ne]
        · exact hr
        · intro e
          subst e
          rw [f2] at hr
          cases hr
end Go.Ax

set_option linter.unusedVariables false
namespace Go.Ax
open Go Go.Proofs
noncomputable def O48 (i : Nat) : Array Oper := opsOf i (bodyOf Try.f48)
noncomputable def B48_1 : Code := (.seq (.seq (.region 9 (O48 9) false) (.cond (Go.Operand.tmp 67) .skip (.exit 0))) (.seq (.block 1 (.seq (.region 11 (O48 11) false) (.region 12 (O48 12) false))) (.region 10 (O48 10) false)))
theorem s48 : bodyOf Try.f48 = (.seq (.region 0 (O48 0) false) (.seq (.region 1 (O48 1) false) (.seq (.seq (.region 2 (O48 2) true) (.cond (Go.Operand.tmp 46) (.seq (.region 3 (O48 3) false) .ret) .skip)) (.seq (.region 4 (O48 4) false) (.seq (.seq (.region 5 (O48 5) false) (.cond (Go.Operand.tmp 63) (.seq (.region 6 (O48 6) false) .ret) .skip)) (.seq (.region 7 (O48 7) false) (.seq (.seq (.region 8 (O48 8) false) (.block 0 (.loop B48_1))) (.seq (.region 13 (O48 13) false) (.seq (.region 14 (O48 14) false) (.seq (.region 15 (O48 15) true) .ret)))))))))) := by kernel_rfl
theorem e48 : E0 48 = some ⟨104, [8, 9], bodyOf Try.f48⟩ := by kernel_rfl
theorem r48_0 {β : Type} (call : CallF) (md : Bool) (n : Nat) (k : Ex → List AV → Heap → Option β) (x0 x1 x2 x3 : AV) (h : Heap) :
    runK C0 call md 48 n (.region 0 (O48 0) false) k (st 104 [(0, x0), (1, x1), (2, x2), (3, x3)]) h =
    k .normal (st 104 [(0, x0), (1, x1), (2, x2), (3, x3)]) h
  := by kernel_rfl
theorem r48_1 {β : Type} (call : CallF) (md : Bool) (n : Nat) (k : Ex → List AV → Heap → Option β) (x0 x1 x2 x3 : AV) (h : Heap) :
    runK C0 call md 48 n (.region 1 (O48 1) false) k (st 104 [(0, x0), (1, x1), (2, x2), (3, x3)]) h =
    bnd2 (aCall call md (.fn (.func 38) []) [x0, x1] h) fun v1 h2 =>
    bnd (aExtract v1 0) fun v3 =>
    bnd (aExtract v1 1) fun v4 =>
    k .normal (st 104 [(0, x0), (1, x1), (2, x2), (3, x3), (10, v3), (11, v4)]) h2
  := by kernel_rfl
def J48_2_6 {β : Type} (call : CallF) (md : Bool) (k : Ex → List AV → Heap → Option β) (x0 x1 x2 x3 x10 x38 x45 : AV) (h : Heap) : Option β :=
    bnd (aPick x38 (.bool true) x45) fun v1 =>
    k .normal (st 104 [(0, x0), (1, x1), (2, x2), (3, x3), (10, x10), (46, v1)]) h
theorem j48_2_6 {β : Type} (call : CallF) (md : Bool) (k : Ex → List AV → Heap → Option β) (x0 x1 x2 x3 x10 x11 x24 x25 x26 x27 x28 x29 x30 x31 x32 x33 x34 x35 x36 x37 x38 x39 x40 x41 x42 x43 x44 x45 : AV) (h : Heap) :
    opsK C0 call md 48 (O48 2) ((O48 2).toList.drop 22) (st 104 [(0, x0), (1, x1), (2, x2), (3, x3), (10, x10), (11, x11), (24, x24), (25, x25), (26, x26), (27, x27), (28, x28), (29, x29), (30, x30), (31, x31), (32, x32), (33, x33), (34, x34), (35, x35), (36, x36), (37, x37), (38, x38), (39, x39), (40, x40), (41, x41), (42, x42), (43, x43), (44, x44), (45, x45)]) h (fun tm h => k .normal (clr (C0.keep 48 2) tm) h) = J48_2_6 call md k x0 x1 x2 x3 x10 x38 x45 h := by kernel_rfl
def J48_2_5 {β : Type} (call : CallF) (md : Bool) (k : Ex → List AV → Heap → Option β) (x0 x1 x2 x3 x10 x38 : AV) (h : Heap) : Option β :=
    onG false x38 (
      bnd (aSlice tab 22 x10 none (some (.int .i64 12)) none) fun v3 =>
      bnd2 (aCall call md (.fn (.func 71) []) [v3] h) fun v4 h5 =>
      bnd (aSlice tab 22 x10 (some (.int .i64 12)) none none) fun v6 =>
      bnd2 (aCall call md (.fn (.func 72) []) [v6] h5) fun v7 h8 =>
      bnd (aBinC tab .neq 105 v4 v7 false) fun v9 =>
      J48_2_6 call md k x0 x1 x2 x3 x10 x38 v9 h8) (
      J48_2_6 call md k x0 x1 x2 x3 x10 x38 .skip h)
theorem g48_2_5 {β : Type} (call : CallF) (md : Bool) (kk : List AV → Heap → Option β) (x0 x1 x2 x3 x10 x11 x24 x25 x26 x27 x28 x29 x30 x31 x32 x33 x34 x35 x36 x37 x38 : AV) (h : Heap) :
    opsK C0 call md 48 (O48 2) (((O48 2).toList.drop 15).take 7) (st 104 [(0, x0), (1, x1), (2, x2), (3, x3), (10, x10), (11, x11), (24, x24), (25, x25), (26, x26), (27, x27), (28, x28), (29, x29), (30, x30), (31, x31), (32, x32), (33, x33), (34, x34), (35, x35), (36, x36), (37, x37), (38, x38)]) h kk =
    onG false x38 (
      bnd (aSlice tab 22 x10 none (some (.int .i64 12)) none) fun v10 =>
      bnd2 (aCall call md (.fn (.func 71) []) [v10] h) fun v11 h12 =>
      bnd (aSlice tab 22 x10 (some (.int .i64 12)) none none) fun v13 =>
      bnd2 (aCall call md (.fn (.func 72) []) [v13] h12) fun v14 h15 =>
      bnd (aBinC tab .neq 105 v11 v14 false) fun v16 =>
      kk (st 104 [(0, x0), (1, x1), (2, x2), (3, x3), (10, x10), (11, x11), (24, x24), (25, x25), (26, x26), (27, x27), (28, x28), (29, x29), (30, x30), (31, x31), (32, x32), (33, x33), (34, x34), (35, x35), (36, x36), (37, x37), (38, x38), (39, x10), (40, v10), (41, v11), (42, x10), (43, v13), (44, v14), (45, v16)]) h15) (
      kk (st 104 [(0, x0), (1, x1), (2, x2), (3, x3), (10, x10), (11, x11), (24, x24), (25, x25), (26, x26), (27, x27), (28, x28), (29, x29), (30, x30), (31, x31), (32, x32), (33, x33), (34, x34), (35, x35), (36, x36), (37, x37), (38, x38), (39, .skip), (40, .skip), (41, .skip), (42, .skip), (43, .skip), (44, .skip), (45, .skip)]) h)
  := by cases x38 with | bool b => (cases b <;> kernel_rfl) | _ => kernel_rfl
theorem j48_2_5 {β : Type} (call : CallF) (md : Bool) (k : Ex → List AV → Heap → Option β) (x0 x1 x2 x3 x10 x11 x24 x25 x26 x27 x28 x29 x30 x31 x32 x33 x34 x35 x36 x37 x38 : AV) (h : Heap) :
    opsK C0 call md 48 (O48 2) ((O48 2).toList.drop 15) (st 104 [(0, x0), (1, x1), (2, x2), (3, x3), (10, x10), (11, x11), (24, x24), (25, x25), (26, x26), (27, x27), (28, x28), (29, x29), (30, x30), (31, x31), (32, x32), (33, x33), (34, x34), (35, x35), (36, x36), (37, x37), (38, x38)]) h (fun tm h => k .normal (clr (C0.keep 48 2) tm) h) = J48_2_5 call md k x0 x1 x2 x3 x10 x38 h := by
  have e : ((O48 2).toList.drop 15) = ((O48 2).toList.drop 15).take 7 ++ (O48 2).toList.drop 22 := by kernel_rfl
  rw [show opsK C0 call md 48 (O48 2) ((O48 2).toList.drop 15) = opsK C0 call md 48 (O48 2) (((O48 2).toList.drop 15).take 7 ++ (O48 2).toList.drop 22) from congrArg _ e]
  rw [opsK_append, g48_2_5]
  simp only [j48_2_6]
  rfl
def J48_2_4 {β : Type} (call : CallF) (md : Bool) (k : Ex → List AV → Heap → Option β) (x0 x1 x2 x3 x10 x31 x36 : AV) (h : Heap) : Option β :=
    bnd (aPick x31 (.bool true) x36) fun v17 =>
    J48_2_5 call md k x0 x1 x2 x3 x10 v17 h
theorem g48_2_4 {β : Type} (call : CallF) (md : Bool) (kk : List AV → Heap → Option β) (x0 x1 x2 x3 x10 x11 x24 x25 x26 x27 x28 x29 x30 x31 x32 x33 x34 x35 x36 : AV) (h : Heap) :
    opsK C0 call md 48 (O48 2) (((O48 2).toList.drop 13).take 2) (st 104 [(0, x0), (1, x1), (2, x2), (3, x3), (10, x10), (11, x11), (24, x24), (25, x25), (26, x26), (27, x27), (28, x28), (29, x29), (30, x30), (31, x31), (32, x32), (33, x33), (34, x34), (35, x35), (36, x36)]) h kk =
    bnd (aPick x31 (.bool true) x36) fun v18 =>
    kk (st 104 [(0, x0), (1, x1), (2, x2), (3, x3), (10, x10), (11, x11), (24, x24), (25, x25), (26, x26), (27, x27), (28, x28), (29, x29), (30, x30), (31, x31), (32, x32), (33, x33), (34, x34), (35, x35), (36, x36), (37, v18), (38, v18)]) h
  := by kernel_rfl
theorem j48_2_4 {β : Type} (call : CallF) (md : Bool) (k : Ex → List AV → Heap → Option β) (x0 x1 x2 x3 x10 x11 x24 x25 x26 x27 x28 x29 x30 x31 x32 x33 x34 x35 x36 : AV) (h : Heap) :
    opsK C0 call md 48 (O48 2) ((O48 2).toList.drop 13) (st 104 [(0, x0), (1, x1), (2, x2), (3, x3), (10, x10), (11, x11), (24, x24), (25, x25), (26, x26), (27, x27), (28, x28), (29, x29), (30, x30), (31, x31), (32, x32), (33, x33), (34, x34), (35, x35), (36, x36)]) h (fun tm h => k .normal (clr (C0.keep 48 2) tm) h) = J48_2_4 call md k x0 x1 x2 x3 x10 x31 x36 h := by
  have e : ((O48 2).toList.drop 13) = ((O48 2).toList.drop 13).take 2 ++ (O48 2).toList.drop 15 := by kernel_rfl
  rw [show opsK C0 call md 48 (O48 2) ((O48 2).toList.drop 13) = opsK C0 call md 48 (O48 2) (((O48 2).toList.drop 13).take 2 ++ (O48 2).toList.drop 15) from congrArg _ e]
  rw [opsK_append, g48_2_4]
  simp only [j48_2_5]
  rfl
def J48_2_3 {β : Type} (call : CallF) (md : Bool) (k : Ex → List AV → Heap → Option β) (x0 x1 x2 x3 x10 x31 : AV) (h : Heap) : Option β :=
    onG false x31 (
      bnd2 (aCall call md (.fn (.func 72) []) [x10] h) fun v19 h20 =>
      bnd (aConv tab 3 105 x3 h20) fun v21 =>
      bnd (aBinC tab .neq 105 v19 v21 false) fun v22 =>
      J48_2_4 call md k x0 x1 x2 x3 x10 x31 v22 h20) (
      J48_2_4 call md k x0 x1 x2 x3 x10 x31 .skip h)
theorem g48_2_3 {β : Type} (call : CallF) (md : Bool) (kk : List AV → Heap → Option β) (x0 x1 x2 x3 x10 x11 x24 x25 x26 x27 x28 x29 x30 x31 : AV) (h : Heap) :
    opsK C0 call md 48 (O48 2) (((O48 2).toList.drop 8).take 5) (st 104 [(0, x0), (1, x1), (2, x2), (3, x3), (10, x10), (11, x11), (24, x24), (25, x25), (26, x26), (27, x27), (28, x28), (29, x29), (30, x30), (31, x31)]) h kk =
    onG false x31 (
      bnd2 (aCall call md (.fn (.func 72) []) [x10] h) fun v23 h24 =>
      bnd (aConv tab 3 105 x3 h24) fun v25 =>
      bnd (aBinC tab .neq 105 v23 v25 false) fun v26 =>
      kk (st 104 [(0, x0), (1, x1), (2, x2), (3, x3), (10, x10), (11, x11), (24, x24), (25, x25), (26, x26), (27, x27), (28, x28), (29, x29), (30, x30), (31, x31), (32, x10), (33, v23), (34, x3), (35, v25), (36, v26)]) h24) (
      kk (st 104 [(0, x0), (1, x1), (2, x2), (3, x3), (10, x10), (11, x11), (24, x24), (25, x25), (26, x26), (27, x27), (28, x28), (29, x29), (30, x30), (31, x31), (32, .skip), (33, .skip), (34, .skip), (35, .skip), (36, .skip)]) h)
  := by cases x31 with | bool b => (cases b <;> kernel_rfl) | _ => kernel_rfl
theorem j48_2_3 {β : Type} (call : CallF) (md : Bool) (k : Ex → List AV → Heap → Option β) (x0 x1 x2 x3 x10 x11 x24 x25 x26 x27 x28 x29 x30 x31 : AV) (h : Heap) :
    opsK C0 call md 48 (O48 2) ((O48 2).toList.drop 8) (st 104 [(0, x0), (1, x1), (2, x2), (3, x3), (10, x10), (11, x11), (24, x24), (25, x25), (26, x26), (27, x27), (28, x28), (29, x29), (30, x30), (31, x31)]) h (fun tm h => k .normal (clr (C0.keep 48 2) tm) h) = J48_2_3 call md k x0 x1 x2 x3 x10 x31 h := by
  have e : ((O48 2).toList.drop 8) = ((O48 2).toList.drop 8).take 5 ++ (O48 2).toList.drop 13 := by kernel_rfl
  rw [show opsK C0 call md 48 (O48 2) ((O48 2).toList.drop 8) = opsK C0 call md 48 (O48 2) (((O48 2).toList.drop 8).take 5 ++ (O48 2).toList.drop 13) from congrArg _ e]
  rw [opsK_append, g48_2_3]
  simp only [j48_2_4]
  rfl
def J48_2_2 {β : Type} (call : CallF) (md : Bool) (k : Ex → List AV → Heap → Option β) (x0 x1 x2 x3 x10 x26 x29 : AV) (h : Heap) : Option β :=
    bnd (aPick x26 (.bool true) x29) fun v27 =>
    J48_2_3 call md k x0 x1 x2 x3 x10 v27 h
theorem g48_2_2 {β : Type} (call : CallF) (md : Bool) (kk : List AV → Heap → Option β) (x0 x1 x2 x3 x10 x11 x24 x25 x26 x27 x28 x29 : AV) (h : Heap) :
    opsK C0 call md 48 (O48 2) (((O48 2).toList.drop 6).take 2) (st 104 [(0, x0), (1, x1), (2, x2), (3, x3), (10, x10), (11, x11), (24, x24), (25, x25), (26, x26), (27, x27), (28, x28), (29, x29)]) h kk =
    bnd (aPick x26 (.bool true) x29) fun v28 =>
    kk (st 104 [(0, x0), (1, x1), (2, x2), (3, x3), (10, x10), (11, x11), (24, x24), (25, x25), (26, x26), (27, x27), (28, x28), (29, x29), (30, v28), (31, v28)]) h
  := by kernel_rfl
theorem j48_2_2 {β : Type} (call : CallF) (md : Bool) (k : Ex → List AV → Heap → Option β) (x0 x1 x2 x3 x10 x11 x24 x25 x26 x27 x28 x29 : AV) (h : Heap) :
    opsK C0 call md 48 (O48 2) ((O48 2).toList.drop 6) (st 104 [(0, x0), (1, x1), (2, x2), (3, x3), (10, x10), (11, x11), (24, x24), (25, x25), (26, x26), (27, x27), (28, x28), (29, x29)]) h (fun tm h => k .normal (clr (C0.keep 48 2) tm) h) = J48_2_2 call md k x0 x1 x2 x3 x10 x26 x29 h := by
  have e : ((O48 2).toList.drop 6) = ((O48 2).toList.drop 6).take 2 ++ (O48 2).toList.drop 8 := by kernel_rfl
  rw [show opsK C0 call md 48 (O48 2) ((O48 2).toList.drop 6) = opsK C0 call md 48 (O48 2) (((O48 2).toList.drop 6).take 2 ++ (O48 2).toList.drop 8) from congrArg _ e]
  rw [opsK_append, g48_2_2]
  simp only [j48_2_3]
  rfl
def J48_2_1 {β : Type} (call : CallF) (md : Bool) (k : Ex → List AV → Heap → Option β) (x0 x1 x2 x3 x10 x26 : AV) (h : Heap) : Option β :=
    onG false x26 (
      bnd (aBinC tab .geq 3 x1 x2 false) fun v29 =>
      J48_2_2 call md k x0 x1 x2 x3 x10 x26 v29 h) (
      J48_2_2 call md k x0 x1 x2 x3 x10 x26 .skip h)
theorem g48_2_1 {β : Type} (call : CallF) (md : Bool) (kk : List AV → Heap → Option β) (x0 x1 x2 x3 x10 x11 x24 x25 x26 : AV) (h : Heap) :
    opsK C0 call md 48 (O48 2) (((O48 2).toList.drop 3).take 3) (st 104 [(0, x0), (1, x1), (2, x2), (3, x3), (10, x10), (11, x11), (24, x24), (25, x25), (26, x26)]) h kk =
    onG false x26 (
      bnd (aBinC tab .geq 3 x1 x2 false) fun v30 =>
      kk (st 104 [(0, x0), (1, x1), (2, x2), (3, x3), (10, x10), (11, x11), (24, x24), (25, x25), (26, x26), (27, x1), (28, x2), (29, v30)]) h) (
      kk (st 104 [(0, x0), (1, x1), (2, x2), (3, x3), (10, x10), (11, x11), (24, x24), (25, x25), (26, x26), (27, .skip), (28, .skip), (29, .skip)]) h)
  := by cases x26 with | bool b => (cases b <;> kernel_rfl) | _ => kernel_rfl
theorem j48_2_1 {β : Type} (call : CallF) (md : Bool) (k : Ex → List AV → Heap → Option β) (x0 x1 x2 x3 x10 x11 x24 x25 x26 : AV) (h : Heap) :
    opsK C0 call md 48 (O48 2) ((O48 2).toList.drop 3) (st 104 [(0, x0), (1, x1), (2, x2), (3, x3), (10, x10), (11, x11), (24, x24), (25, x25), (26, x26)]) h (fun tm h => k .normal (clr (C0.keep 48 2) tm) h) = J48_2_1 call md k x0 x1 x2 x3 x10 x26 h := by
  have e : ((O48 2).toList.drop 3) = ((O48 2).toList.drop 3).take 3 ++ (O48 2).toList.drop 6 := by kernel_rfl
  rw [show opsK C0 call md 48 (O48 2) ((O48 2).toList.drop 3) = opsK C0 call md 48 (O48 2) (((O48 2).toList.drop 3).take 3 ++ (O48 2).toList.drop 6) from congrArg _ e]
  rw [opsK_append, g48_2_1]
  simp only [j48_2_2]
  rfl
def J48_2_0 {β : Type} (call : CallF) (md : Bool) (k : Ex → List AV → Heap → Option β) (x0 x1 x2 x3 x10 x11 : AV) (h : Heap) : Option β :=
    bnd (aBinC tab .neq 27 x11 (.int .i64 0) true) fun v31 =>
    J48_2_1 call md k x0 x1 x2 x3 x10 v31 h
theorem g48_2_0 {β : Type} (call : CallF) (md : Bool) (kk : List AV → Heap → Option β) (x0 x1 x2 x3 x10 x11 : AV) (h : Heap) :
    opsK C0 call md 48 (O48 2) ((O48 2).toList.take 3) (st 104 [(0, x0), (1, x1), (2, x2), (3, x3), (10, x10), (11, x11)]) h kk =
    bnd (aBinC tab .neq 27 x11 (.int .i64 0) true) fun v32 =>
    kk (st 104 [(0, x0), (1, x1), (2, x2), (3, x3), (10, x10), (11, x11), (24, x11), (25, v32), (26, v32)]) h
  := by kernel_rfl
theorem j48_2_0 {β : Type} (call : CallF) (md : Bool) (k : Ex → List AV → Heap → Option β) (x0 x1 x2 x3 x10 x11 : AV) (h : Heap) :
    opsK C0 call md 48 (O48 2) (O48 2).toList (st 104 [(0, x0), (1, x1), (2, x2), (3, x3), (10, x10), (11, x11)]) h (fun tm h => k .normal (clr (C0.keep 48 2) tm) h) = J48_2_0 call md k x0 x1 x2 x3 x10 x11 h := by
  have e : (O48 2).toList = (O48 2).toList.take 3 ++ (O48 2).toList.drop 3 := by kernel_rfl
  rw [show opsK C0 call md 48 (O48 2) (O48 2).toList = opsK C0 call md 48 (O48 2) ((O48 2).toList.take 3 ++ (O48 2).toList.drop 3) from congrArg _ e]
  rw [opsK_append, g48_2_0]
  simp only [j48_2_1]
  rfl
theorem r48_2 {β : Type} (call : CallF) (md : Bool) (n : Nat) (k : Ex → List AV → Heap → Option β) (x0 x1 x2 x3 x10 x11 : AV) (h : Heap) :
    runK C0 call md 48 n (.region 2 (O48 2) true) k (st 104 [(0, x0), (1, x1), (2, x2), (3, x3), (10, x10), (11, x11)]) h = J48_2_0 call md k x0 x1 x2 x3 x10 x11 h := (runK_draw C0 call md 48 n 2 (O48 2) k (st 104 [(0, x0), (1, x1), (2, x2), (3, x3), (10, x10), (11, x11)]) h).trans ((regK_draw C0 call md 48 (ops := (O48 2)) (by kernel_rfl) (by kernel_rfl) (st 104 [(0, x0), (1, x1), (2, x2), (3, x3), (10, x10), (11, x11)]) h (fun tm h => k .normal (clr (C0.keep 48 2) tm) h)).trans (j48_2_0 call md k x0 x1 x2 x3 x10 x11 h))
theorem r48_3 {β : Type} (call : CallF) (md : Bool) (n : Nat) (k : Ex → List AV → Heap → Option β) (x0 x1 x2 x3 x10 x46 : AV) (h : Heap) :
    runK C0 call md 48 n (.region 3 (O48 3) false) k (st 104 [(0, x0), (1, x1), (2, x2), (3, x3), (10, x10), (46, x46)]) h =
    k .normal (st 104 [(8, .nils), (9, (.bool false))]) h
  := by kernel_rfl
theorem r48_4 {β : Type} (call : CallF) (md : Bool) (n : Nat) (k : Ex → List AV → Heap → Option β) (x0 x1 x2 x3 x10 x46 : AV) (h : Heap) :
    runK C0 call md 48 n (.region 4 (O48 4) false) k (st 104 [(0, x0), (1, x1), (2, x2), (3, x3), (10, x10), (46, x46)]) h =
    bnd (aSlice tab 22 x10 (some (.int .i64 4)) none none) fun v1 =>
    bnd2 (aCall call md (.fn (.func 72) []) [v1] h) fun v2 h3 =>
    bnd (aConv tab 105 3 v2 h3) fun v4 =>
    k .normal (st 104 [(0, x0), (1, x1), (2, x2), (3, x3), (10, x10), (12, v4)]) h3
  := by kernel_rfl
def J48_5_2 {β : Type} (call : CallF) (md : Bool) (k : Ex → List AV → Heap → Option β) (x0 x1 x3 x10 x12 x53 x62 : AV) (h : Heap) : Option β :=
    bnd (aPick x53 (.bool true) x62) fun v1 =>
    k .normal (st 104 [(0, x0), (1, x1), (3, x3), (10, x10), (12, x12), (63, v1)]) h
theorem j48_5_2 {β : Type} (call : CallF) (md : Bool) (k : Ex → List AV → Heap → Option β) (x0 x1 x2 x3 x10 x12 x51 x52 x53 x54 x55 x56 x57 x58 x59 x60 x61 x62 : AV) (h : Heap) :
    opsK C0 call md 48 (O48 5) ((O48 5).toList.drop 12) (st 104 [(0, x0), (1, x1), (2, x2), (3, x3), (10, x10), (12, x12), (51, x51), (52, x52), (53, x53), (54, x54), (55, x55), (56, x56), (57, x57), (58, x58), (59, x59), (60, x60), (61, x61), (62, x62)]) h (fun tm h => k .normal (clr (C0.keep 48 5) tm) h) = J48_5_2 call md k x0 x1 x3 x10 x12 x53 x62 h := by kernel_rfl
def J48_5_1 {β : Type} (call : CallF) (md : Bool) (k : Ex → List AV → Heap → Option β) (x0 x1 x2 x3 x10 x12 x53 : AV) (h : Heap) : Option β :=
    onG false x53 (
      bnd2 (aCall call md (.fn (.func 45) []) [x12] h) fun v3 h4 =>
      bnd2 (aCall call md (.fn (.func 46) []) [x0] h4) fun v5 h6 =>
      bnd (aMin [x2, v5]) fun v7 =>
      bnd (aBinC tab .sub 3 v7 x1 false) fun v8 =>
      bnd (aBinC tab .gtr 3 v3 v8 false) fun v9 =>
      J48_5_2 call md k x0 x1 x3 x10 x12 x53 v9 h6) (
      J48_5_2 call md k x0 x1 x3 x10 x12 x53 .skip h)
theorem g48_5_1 {β : Type} (call : CallF) (md : Bool) (kk : List AV → Heap → Option β) (x0 x1 x2 x3 x10 x12 x51 x52 x53 : AV) (h : Heap) :
    opsK C0 call md 48 (O48 5) (((O48 5).toList.drop 3).take 9) (st 104 [(0, x0), (1, x1), (2, x2), (3, x3), (10, x10), (12, x12), (51, x51), (52, x52), (53, x53)]) h kk =
    onG false x53 (
      bnd2 (aCall call md (.fn (.func 45) []) [x12] h) fun v10 h11 =>
      bnd2 (aCall call md (.fn (.func 46) []) [x0] h11) fun v12 h13 =>
      bnd (aMin [x2, v12]) fun v14 =>
      bnd (aBinC tab .sub 3 v14 x1 false) fun v15 =>
      bnd (aBinC tab .gtr 3 v10 v15 false) fun v16 =>
      kk (st 104 [(0, x0), (1, x1), (2, x2), (3, x3), (10, x10), (12, x12), (51, x51), (52, x52), (53, x53), (54, x12), (55, v10), (56, x2), (57, x0), (58, v12), (59, v14), (60, x1), (61, v15), (62, v16)]) h13) (
      kk (st 104 [(0, x0), (1, x1), (2, x2), (3, x3), (10, x10), (12, x12), (51, x51), (52, x52), (53, x53), (54, .skip), (55, .skip), (56, .skip), (57, .skip), (58, .skip), (59, .skip), (60, .skip), (61, .skip), (62, .skip)]) h)
  := by cases x53 with | bool b => (cases b <;> kernel_rfl) | _ => kernel_rfl
theorem j48_5_1 {β : Type} (call : CallF) (md : Bool) (k : Ex → List AV → Heap → Option β) (x0 x1 x2 x3 x10 x12 x51 x52 x53 : AV) (h : Heap) :
    opsK C0 call md 48 (O48 5) ((O48 5).toList.drop 3) (st 104 [(0, x0), (1, x1), (2, x2), (3, x3), (10, x10), (12, x12), (51, x51), (52, x52), (53, x53)]) h (fun tm h => k .normal (clr (C0.keep 48 5) tm) h) = J48_5_1 call md k x0 x1 x2 x3 x10 x12 x53 h := by
  have e : ((O48 5).toList.drop 3) = ((O48 5).toList.drop 3).take 9 ++ (O48 5).toList.drop 12 := by kernel_rfl
  rw [show opsK C0 call md 48 (O48 5) ((O48 5).toList.drop 3) = opsK C0 call md 48 (O48 5) (((O48 5).toList.drop 3).take 9 ++ (O48 5).toList.drop 12) from congrArg _ e]
  rw [opsK_append, g48_5_1]
  simp only [j48_5_2]
  rfl
def J48_5_0 {β : Type} (call : CallF) (md : Bool) (k : Ex → List AV → Heap → Option β) (x0 x1 x2 x3 x10 x12 : AV) (h : Heap) : Option β :=
    bnd (aBinC tab .gtr 3 x12 (.int .i64 8192) true) fun v17 =>
    J48_5_1 call md k x0 x1 x2 x3 x10 x12 v17 h
theorem g48_5_0 {β : Type} (call : CallF) (md : Bool) (kk : List AV → Heap → Option β) (x0 x1 x2 x3 x10 x12 : AV) (h : Heap) :
    opsK C0 call md 48 (O48 5) ((O48 5).toList.take 3) (st 104 [(0, x0), (1, x1), (2, x2), (3, x3), (10, x10), (12, x12)]) h kk =
    bnd (aBinC tab .gtr 3 x12 (.int .i64 8192) true) fun v18 =>
    kk (st 104 [(0, x0), (1, x1), (2, x2), (3, x3), (10, x10), (12, x12), (51, x12), (52, v18), (53, v18)]) h
  := by kernel_rfl
theorem j48_5_0 {β : Type} (call : CallF) (md : Bool) (k : Ex → List AV → Heap → Option β) (x0 x1 x2 x3 x10 x12 : AV) (h : Heap) :
    opsK C0 call md 48 (O48 5) (O48 5).toList (st 104 [(0, x0), (1, x1), (2, x2), (3, x3), (10, x10), (12, x12)]) h (fun tm h => k .normal (clr (C0.keep 48 5) tm) h) = J48_5_0 call md k x0 x1 x2 x3 x10 x12 h := by
  have e : (O48 5).toList = (O48 5).toList.take 3 ++ (O48 5).toList.drop 3 := by kernel_rfl
  rw [show opsK C0 call md 48 (O48 5) (O48 5).toList = opsK C0 call md 48 (O48 5) ((O48 5).toList.take 3 ++ (O48 5).toList.drop 3) from congrArg _ e]
  rw [opsK_append, g48_5_0]
  simp only [j48_5_1]
  rfl
theorem r48_5 {β : Type} (call : CallF) (md : Bool) (n : Nat) (k : Ex → List AV → Heap → Option β) (x0 x1 x2 x3 x10 x12 : AV) (h : Heap) :
    runK C0 call md 48 n (.region 5 (O48 5) false) k (st 104 [(0, x0), (1, x1), (2, x2), (3, x3), (10, x10), (12, x12)]) h = J48_5_0 call md k x0 x1 x2 x3 x10 x12 h := (runK_region C0 call md 48 n 5 (O48 5) k (st 104 [(0, x0), (1, x1), (2, x2), (3, x3), (10, x10), (12, x12)]) h).trans (j48_5_0 call md k x0 x1 x2 x3 x10 x12 h)
theorem r48_6 {β : Type} (call : CallF) (md : Bool) (n : Nat) (k : Ex → List AV → Heap → Option β) (x0 x1 x3 x10 x12 x63 : AV) (h : Heap) :
    runK C0 call md 48 n (.region 6 (O48 6) false) k (st 104 [(0, x0), (1, x1), (3, x3), (10, x10), (12, x12), (63, x63)]) h =
    k .normal (st 104 [(8, .nils), (9, (.bool false))]) h
  := by kernel_rfl
theorem r48_7 {β : Type} (call : CallF) (md : Bool) (n : Nat) (k : Ex → List AV → Heap → Option β) (x0 x1 x3 x10 x12 x63 : AV) (h : Heap) :
    runK C0 call md 48 n (.region 7 (O48 7) false) k (st 104 [(0, x0), (1, x1), (3, x3), (10, x10), (12, x12), (63, x63)]) h =
    k .normal (st 104 [(0, x0), (1, x1), (3, x3), (10, x10), (12, x12), (13, .nils)]) h
  := by kernel_rfl
theorem r48_8 {β : Type} (call : CallF) (md : Bool) (n : Nat) (k : Ex → List AV → Heap → Option β) (x0 x1 x3 x10 x12 x13 : AV) (h : Heap) :
    runK C0 call md 48 n (.region 8 (O48 8) false) k (st 104 [(0, x0), (1, x1), (3, x3), (10, x10), (12, x12), (13, x13)]) h =
    k .normal (st 104 [(0, x0), (1, x1), (3, x3), (10, x10), (12, x12), (13, x13), (14, (.int .i64 1))]) h
  := by kernel_rfl
theorem r48_9 {β : Type} (call : CallF) (md : Bool) (n : Nat) (k : Ex → List AV → Heap → Option β) (x0 x1 x3 x10 x12 x13 x14 : AV) (h : Heap) :
    runK C0 call md 48 n (.region 9 (O48 9) false) k (st 104 [(0, x0), (1, x1), (3, x3), (10, x10), (12, x12), (13, x13), (14, x14)]) h =
    bnd2 (aCall call md (.fn (.func 45) []) [x12] h) fun v1 h2 =>
    bnd (aBinC tab .lss 3 x14 v1 false) fun v3 =>
    k .normal (st 104 [(0, x0), (1, x1), (3, x3), (10, x10), (12, x12), (13, x13), (14, x14), (67, v3)]) h2
  := by kernel_rfl
theorem r48_10 {β : Type} (call : CallF) (md : Bool) (n : Nat) (k : Ex → List AV → Heap → Option β) (x0 x1 x3 x10 x12 x13 x14 : AV) (h : Heap) :
    runK C0 call md 48 n (.region 10 (O48 10) false) k (st 104 [(0, x0), (1, x1), (3, x3), (10, x10), (12, x12), (13, x13), (14, x14)]) h =
    bnd (aBinC tab .add 3 x14 (.int .i64 1) true) fun v1 =>
    k .normal (st 104 [(0, x0), (1, x1), (3, x3), (10, x10), (12, x12), (13, x13), (14, v1)]) h
  := by kernel_rfl
theorem r48_11 {β : Type} (call : CallF) (md : Bool) (n : Nat) (k : Ex → List AV → Heap → Option β) (x0 x1 x3 x10 x12 x13 x14 x67 : AV) (h : Heap) :
    runK C0 call md 48 n (.region 11 (O48 11) false) k (st 104 [(0, x0), (1, x1), (3, x3), (10, x10), (12, x12), (13, x13), (14, x14), (67, x67)]) h =
    bnd (aBinC tab .add 3 x1 x14 false) fun v1 =>
    bnd2 (aCall call md (.fn (.func 38) []) [x0, v1] h) fun v2 h3 =>
    bnd (aExtract v2 0) fun v4 =>
    bnd (aExtract v2 1) fun v5 =>
    k .normal (st 104 [(0, x0), (1, x1), (3, x3), (10, x10), (12, x12), (13, x13), (14, x14), (15, v4)]) h3
  := by kernel_rfl
theorem r48_12 {β : Type} (call : CallF) (md : Bool) (n : Nat) (k : Ex → List AV → Heap → Option β) (x0 x1 x3 x10 x12 x13 x14 x15 : AV) (h : Heap) :
    runK C0 call md 48 n (.region 12 (O48 12) false) k (st 104 [(0, x0), (1, x1), (3, x3), (10, x10), (12, x12), (13, x13), (14, x14), (15, x15)]) h =
    bnd2 (aApp tab 22 22 md x13 x15 h) fun v1 h2 =>
    k .normal (st 104 [(0, x0), (1, x1), (3, x3), (10, x10), (12, x12), (13, v1), (14, x14)]) h2
  := by kernel_rfl
theorem r48_13 {β : Type} (call : CallF) (md : Bool) (n : Nat) (k : Ex → List AV → Heap → Option β) (x0 x1 x3 x10 x12 x13 x14 x67 : AV) (h : Heap) :
    runK C0 call md 48 n (.region 13 (O48 13) false) k (st 104 [(0, x0), (1, x1), (3, x3), (10, x10), (12, x12), (13, x13), (14, x14), (67, x67)]) h =
    bnd (aSlice tab 22 x13 (some x12) none none) fun v1 =>
    k .normal (st 104 [(3, x3), (10, x10), (12, x12), (13, x13), (17, v1)]) h
  := by kernel_rfl
theorem r48_14 {β : Type} (call : CallF) (md : Bool) (n : Nat) (k : Ex → List AV → Heap → Option β) (x3 x10 x12 x13 x17 : AV) (h : Heap) :
    runK C0 call md 48 n (.region 14 (O48 14) false) k (st 104 [(3, x3), (10, x10), (12, x12), (13, x13), (17, x17)]) h =
    bnd (aSlice tab 22 x13 none (some x12) (some x12)) fun v1 =>
    k .normal (st 104 [(3, x3), (10, x10), (13, v1), (17, x17)]) h
  := by kernel_rfl
def J48_15_4 {β : Type} (call : CallF) (md : Bool) (k : Ex → List AV → Heap → Option β) (x88 x100 x102 : AV) (h : Heap) : Option β :=
    bnd (aPick x100 x102 (.bool false)) fun v1 =>
    k .normal (st 104 [(8, x88), (9, v1)]) h
theorem j48_15_4 {β : Type} (call : CallF) (md : Bool) (k : Ex → List AV → Heap → Option β) (x3 x10 x13 x17 x88 x89 x90 x91 x92 x93 x94 x95 x96 x97 x98 x99 x100 x101 x102 : AV) (h : Heap) :
    opsK C0 call md 48 (O48 15) ((O48 15).toList.drop 15) (st 104 [(3, x3), (10, x10), (13, x13), (17, x17), (88, x88), (89, x89), (90, x90), (91, x91), (92, x92), (93, x93), (94, x94), (95, x95), (96, x96), (97, x97), (98, x98), (99, x99), (100, x100), (101, x101), (102, x102)]) h (fun tm h => k .normal (clr (C0.keep 48 15) tm) h) = J48_15_4 call md k x88 x100 x102 h := by kernel_rfl
def J48_15_3 {β : Type} (call : CallF) (md : Bool) (k : Ex → List AV → Heap → Option β) (x17 x88 x100 : AV) (h : Heap) : Option β :=
    onG true x100 (
      bnd2 (aCall call md (.fn (.func 51) []) [x17] h) fun v3 h4 =>
      J48_15_4 call md k x88 x100 v3 h4) (
      J48_15_4 call md k x88 x100 .skip h)
theorem g48_15_3 {β : Type} (call : CallF) (md : Bool) (kk : List AV → Heap → Option β) (x3 x10 x13 x17 x88 x89 x90 x91 x92 x93 x94 x95 x96 x97 x98 x99 x100 : AV) (h : Heap) :
    opsK C0 call md 48 (O48 15) (((O48 15).toList.drop 13).take 2) (st 104 [(3, x3), (10, x10), (13, x13), (17, x17), (88, x88), (89, x89), (90, x90), (91, x91), (92, x92), (93, x93), (94, x94), (95, x95), (96, x96), (97, x97), (98, x98), (99, x99), (100, x100)]) h kk =
    onG true x100 (
      bnd2 (aCall call md (.fn (.func 51) []) [x17] h) fun v5 h6 =>
      kk (st 104 [(3, x3), (10, x10), (13, x13), (17, x17), (88, x88), (89, x89), (90, x90), (91, x91), (92, x92), (93, x93), (94, x94), (95, x95), (96, x96), (97, x97), (98, x98), (99, x99), (100, x100), (101, x17), (102, v5)]) h6) (
      kk (st 104 [(3, x3), (10, x10), (13, x13), (17, x17), (88, x88), (89, x89), (90, x90), (91, x91), (92, x92), (93, x93), (94, x94), (95, x95), (96, x96), (97, x97), (98, x98), (99, x99), (100, x100), (101, .skip), (102, .skip)]) h)
  := by cases x100 with | bool b => (cases b <;> kernel_rfl) | _ => kernel_rfl
theorem j48_15_3 {β : Type} (call : CallF) (md : Bool) (k : Ex → List AV → Heap → Option β) (x3 x10 x13 x17 x88 x89 x90 x91 x92 x93 x94 x95 x96 x97 x98 x99 x100 : AV) (h : Heap) :
    opsK C0 call md 48 (O48 15) ((O48 15).toList.drop 13) (st 104 [(3, x3), (10, x10), (13, x13), (17, x17), (88, x88), (89, x89), (90, x90), (91, x91), (92, x92), (93, x93), (94, x94), (95, x95), (96, x96), (97, x97), (98, x98), (99, x99), (100, x100)]) h (fun tm h => k .normal (clr (C0.keep 48 15) tm) h) = J48_15_3 call md k x17 x88 x100 h := by
  have e : ((O48 15).toList.drop 13) = ((O48 15).toList.drop 13).take 2 ++ (O48 15).toList.drop 15 := by kernel_rfl
  rw [show opsK C0 call md 48 (O48 15) ((O48 15).toList.drop 13) = opsK C0 call md 48 (O48 15) (((O48 15).toList.drop 13).take 2 ++ (O48 15).toList.drop 15) from congrArg _ e]
  rw [opsK_append, g48_15_3]
  simp only [j48_15_4]
  rfl
def J48_15_2 {β : Type} (call : CallF) (md : Bool) (k : Ex → List AV → Heap → Option β) (x17 x88 x95 x98 : AV) (h : Heap) : Option β :=
    bnd (aPick x95 x98 (.bool false)) fun v7 =>
    J48_15_3 call md k x17 x88 v7 h
theorem g48_15_2 {β : Type} (call : CallF) (md : Bool) (kk : List AV → Heap → Option β) (x3 x10 x13 x17 x88 x89 x90 x91 x92 x93 x94 x95 x96 x97 x98 : AV) (h : Heap) :
    opsK C0 call md 48 (O48 15) (((O48 15).toList.drop 11).take 2) (st 104 [(3, x3), (10, x10), (13, x13), (17, x17), (88, x88), (89, x89), (90, x90), (91, x91), (92, x92), (93, x93), (94, x94), (95, x95), (96, x96), (97, x97), (98, x98)]) h kk =
    bnd (aPick x95 x98 (.bool false)) fun v8 =>
    kk (st 104 [(3, x3), (10, x10), (13, x13), (17, x17), (88, x88), (89, x89), (90, x90), (91, x91), (92, x92), (93, x93), (94, x94), (95, x95), (96, x96), (97, x97), (98, x98), (99, v8), (100, v8)]) h
  := by kernel_rfl
theorem j48_15_2 {β : Type} (call : CallF) (md : Bool) (k : Ex → List AV → Heap → Option β) (x3 x10 x13 x17 x88 x89 x90 x91 x92 x93 x94 x95 x96 x97 x98 : AV) (h : Heap) :
    opsK C0 call md 48 (O48 15) ((O48 15).toList.drop 11) (st 104 [(3, x3), (10, x10), (13, x13), (17, x17), (88, x88), (89, x89), (90, x90), (91, x91), (92, x92), (93, x93), (94, x94), (95, x95), (96, x96), (97, x97), (98, x98)]) h (fun tm h => k .normal (clr (C0.keep 48 15) tm) h) = J48_15_2 call md k x17 x88 x95 x98 h := by
  have e : ((O48 15).toList.drop 11) = ((O48 15).toList.drop 11).take 2 ++ (O48 15).toList.drop 13 := by kernel_rfl
  rw [show opsK C0 call md 48 (O48 15) ((O48 15).toList.drop 11) = opsK C0 call md 48 (O48 15) (((O48 15).toList.drop 11).take 2 ++ (O48 15).toList.drop 13) from congrArg _ e]
  rw [opsK_append, g48_15_2]
  simp only [j48_15_3]
  rfl
def J48_15_1 {β : Type} (call : CallF) (md : Bool) (k : Ex → List AV → Heap → Option β) (x10 x17 x88 x95 : AV) (h : Heap) : Option β :=
    onG true x95 (
      bnd (aSlice tab 22 x10 (some (.int .i64 16)) none none) fun v9 =>
      bnd2 (aCall call md (.fn (.func 51) []) [v9] h) fun v10 h11 =>
      J48_15_2 call md k x17 x88 x95 v10 h11) (
      J48_15_2 call md k x17 x88 x95 .skip h)
theorem g48_15_1 {β : Type} (call : CallF) (md : Bool) (kk : List AV → Heap → Option β) (x3 x10 x13 x17 x88 x89 x90 x91 x92 x93 x94 x95 : AV) (h : Heap) :
    opsK C0 call md 48 (O48 15) (((O48 15).toList.drop 8).take 3) (st 104 [(3, x3), (10, x10), (13, x13), (17, x17), (88, x88), (89, x89), (90, x90), (91, x91), (92, x92), (93, x93), (94, x94), (95, x95)]) h kk =
    onG true x95 (
      bnd (aSlice tab 22 x10 (some (.int .i64 16)) none none) fun v12 =>
      bnd2 (aCall call md (.fn (.func 51) []) [v12] h) fun v13 h14 =>
      kk (st 104 [(3, x3), (10, x10), (13, x13), (17, x17), (88, x88), (89, x89), (90, x90), (91, x91), (92, x92), (93, x93), (94, x94), (95, x95), (96, x10), (97, v12), (98, v13)]) h14) (
      kk (st 104 [(3, x3), (10, x10), (13, x13), (17, x17), (88, x88), (89, x89), (90, x90), (91, x91), (92, x92), (93, x93), (94, x94), (95, x95), (96, .skip), (97, .skip), (98, .skip)]) h)
  := by cases x95 with | bool b => (cases b <;> kernel_rfl) | _ => kernel_rfl
theorem j48_15_1 {β : Type} (call : CallF) (md : Bool) (k : Ex → List AV → Heap → Option β) (x3 x10 x13 x17 x88 x89 x90 x91 x92 x93 x94 x95 : AV) (h : Heap) :
    opsK C0 call md 48 (O48 15) ((O48 15).toList.drop 8) (st 104 [(3, x3), (10, x10), (13, x13), (17, x17), (88, x88), (89, x89), (90, x90), (91, x91), (92, x92), (93, x93), (94, x94), (95, x95)]) h (fun tm h => k .normal (clr (C0.keep 48 15) tm) h) = J48_15_1 call md k x10 x17 x88 x95 h := by
  have e : ((O48 15).toList.drop 8) = ((O48 15).toList.drop 8).take 3 ++ (O48 15).toList.drop 11 := by kernel_rfl
  rw [show opsK C0 call md 48 (O48 15) ((O48 15).toList.drop 8) = opsK C0 call md 48 (O48 15) (((O48 15).toList.drop 8).take 3 ++ (O48 15).toList.drop 11) from congrArg _ e]
  rw [opsK_append, g48_15_1]
  simp only [j48_15_2]
  rfl
def J48_15_0 {β : Type} (call : CallF) (md : Bool) (k : Ex → List AV → Heap → Option β) (x3 x10 x13 x17 : AV) (h : Heap) : Option β :=
    bnd2 (aCall call md (.fn (.func 47) []) [x3, x13] h) fun v15 h16 =>
    bnd (aSlice tab 22 x10 none (some (.int .i64 16)) none) fun v17 =>
    bnd2 (aCall call md (.fn (.func 73) []) [v15, v17] h16) fun v18 h19 =>
    J48_15_1 call md k x10 x17 x13 v18 h19
theorem g48_15_0 {β : Type} (call : CallF) (md : Bool) (kk : List AV → Heap → Option β) (x3 x10 x13 x17 : AV) (h : Heap) :
    opsK C0 call md 48 (O48 15) ((O48 15).toList.take 8) (st 104 [(3, x3), (10, x10), (13, x13), (17, x17)]) h kk =
    bnd2 (aCall call md (.fn (.func 47) []) [x3, x13] h) fun v20 h21 =>
    bnd (aSlice tab 22 x10 none (some (.int .i64 16)) none) fun v22 =>
    bnd2 (aCall call md (.fn (.func 73) []) [v20, v22] h21) fun v23 h24 =>
    kk (st 104 [(3, x3), (10, x10), (13, x13), (17, x17), (88, x13), (89, x3), (90, x13), (91, v20), (92, x10), (93, v22), (94, v23), (95, v23)]) h24
  := by kernel_rfl
theorem j48_15_0 {β : Type} (call : CallF) (md : Bool) (k : Ex → List AV → Heap → Option β) (x3 x10 x13 x17 : AV) (h : Heap) :
    opsK C0 call md 48 (O48 15) (O48 15).toList (st 104 [(3, x3), (10, x10), (13, x13), (17, x17)]) h (fun tm h => k .normal (clr (C0.keep 48 15) tm) h) = J48_15_0 call md k x3 x10 x13 x17 h := by
  have e : (O48 15).toList = (O48 15).toList.take 8 ++ (O48 15).toList.drop 8 := by kernel_rfl
  rw [show opsK C0 call md 48 (O48 15) (O48 15).toList = opsK C0 call md 48 (O48 15) ((O48 15).toList.take 8 ++ (O48 15).toList.drop 8) from congrArg _ e]
  rw [opsK_append, g48_15_0]
  simp only [j48_15_1]
  rfl
theorem r48_15 {β : Type} (call : CallF) (md : Bool) (n : Nat) (k : Ex → List AV → Heap → Option β) (x3 x10 x13 x17 : AV) (h : Heap) :
    runK C0 call md 48 n (.region 15 (O48 15) true) k (st 104 [(3, x3), (10, x10), (13, x13), (17, x17)]) h = J48_15_0 call md k x3 x10 x13 x17 h := (runK_draw C0 call md 48 n 15 (O48 15) k (st 104 [(3, x3), (10, x10), (13, x13), (17, x17)]) h).trans ((regK_draw C0 call md 48 (ops := (O48 15)) (by kernel_rfl) (by kernel_rfl) (st 104 [(3, x3), (10, x10), (13, x13), (17, x17)]) h (fun tm h => k .normal (clr (C0.keep 48 15) tm) h)).trans (j48_15_0 call md k x3 x10 x13 x17 h))
end Go.Ax

namespace Go.Ax
open Go Go.Proofs
theorem Dsk.low {S : Obs} {h : Heap} {p r : Nat} {d : Dk} (D : Dsk S h p r d) : Dsk (fun i => i < h.length) h p r d := by
  obtain ⟨x, hx, ha⟩ := D.var
  refine ⟨(List.getElem?_eq_some_iff.1 hx).1, fun e => (List.getElem?_eq_some_iff.1 (D.row e)).1, ⟨x, hx, ?_⟩, D.row, D.cells, D.loose, D.few⟩
  rcases ha with a | ⟨kk, hx, a | ⟨r, g, hk, hr, hg⟩⟩
  · exact .inl a
  · exact .inr ⟨kk, hx, .inl a⟩
  · exact .inr ⟨kk, hx, .inr ⟨r, g, hk, (List.getElem?_eq_some_iff.1 hg).1, hg⟩⟩
theorem Dsk.now_length {S : Obs} {h : Heap} {p r : Nat} {d : Dk} (_ : Dsk S h p r d) : d.now.length = d.lasts.length := land_length _ _
theorem Dsk.now_cells {S : Obs} {h : Heap} {p r : Nat} {d : Dk} (D : Dsk S h p r d) : ∀ b ∈ d.now, b.length = 64 := land_cells _ _ D.cells fun w hw => (D.loose w hw).2
def bodyAt (now : List (List UInt8)) (a n : Nat) : List UInt8 := ((now.drop (a + 1)).take n).flatten
theorem bodyAt_succ (now : List (List UInt8)) (a n : Nat) (b : List UInt8) (h : now[a + 1 + n]? = some b) : bodyAt now a (n + 1) = bodyAt now a n ++ b := by
  unfold bodyAt
  rw [List.take_add_one, List.getElem?_drop, h, List.flatten_append]
  simp
theorem bodyAt_length (now : List (List UInt8)) (hc : ∀ b ∈ now, b.length = 64) (a : Nat) : ∀ n, a + 1 + n ≤ now.length → (bodyAt now a n).length = 64 * n := by
  intro n
  induction n with
  | zero => intro _; simp [bodyAt]
  | succ n ih =>
    intro hn
    have hlt : a + 1 + n < now.length := by omega
    rw [bodyAt_succ now a n now[a + 1 + n] (List.getElem?_eq_getElem hlt), List.length_append, ih (by omega), hc _ (List.getElem_mem hlt)]
    omega
theorem one_loop {S U : Obs} {p r : Nat} {d : Dk} (hl : d.loose.length < 2 ^ 30) (dis : ∀ i, S i → ¬ U i) (a nn : Nat) (size : Int) (hs : size < 2 ^ 62) (hnn : sizeOf size = nn) (ha : a + nn ≤ d.lasts.length) (x3 x10 : AV) (N : Nat) (hN : d.loose.length + 5 < N) :
    ∀ (m i n : Nat) (acc : AV) (h : Heap), i + 1 + m = nn → m < n → Up U h → Dsk S h p r d → ApB U h acc (bodyAt d.now a i) →
    ∃ acc' h', (∀ K : Ex → List AV → Heap → Option (AV × Heap), loopK (fun next => runK C0 (exFn C0 E0 (N + 1)) false 48 (N + 1) B48_1 (seqE next K)) n (st 104 [(0, dp p), (1, .int .i64 a), (3, x3), (10, x10), (12, .int .i64 size), (13, acc), (14, .int .i64 ((i + 1 : Nat) : Int))]) h =
      K (.exit 0) (st 104 [(0, dp p), (1, .int .i64 a), (3, x3), (10, x10), (12, .int .i64 size), (13, acc'), (14, .int .i64 nn), (67, .bool false)]) h') ∧
      ApB U h' acc' (bodyAt d.now a (nn - 1)) ∧ Keep U h h' := by
  intro m
  induction m with
  | zero =>
    intro i n acc h hi hn up D hacc
    obtain ⟨n, rfl⟩ : ∃ j, n = j + 1 := ⟨n - 1, by omega⟩
    obtain rfl : nn = i + 1 := by omega
    refine ⟨acc, h, fun K => ?_, by simpa using hacc, Keep.refl _ _⟩
    rw [loopK_succ]
    generalize loopK (_ : (List AV → Heap → Option (AV × Heap)) → List AV → Heap → Option (AV × Heap)) n = Lp
    have e : decide (((i + 1 : Nat) : Int) < sizeOf size) = false := decide_eq_false (by omega)
    simp -implicitDefEqProofs only [B48_1, ↓runK_seq, runK_seq, ↓runK_cond, runK_cond, ↓runK_block, runK_block, ↓runK_loop, runK_loop, ↓runK_skip, runK_skip, ↓runK_ret, runK_ret, ↓runK_exit, runK_exit, ↓seqE_n, seqE_n, ↓seqE_e, seqE_e, ↓seqE_r, seqE_r, ↓blkE_n, blkE_n, ↓blkE_e, blkE_e, ↓blkE_r, blkE_r, ↓retK_n, retK_n, ↓retK_r, retK_r, ↓aCall_fn, aCall_fn, ↓bnd_s, bnd_s, ↓bnd2_s, bnd2_s, ↓onB_t, onB_t, ↓onB_f, onB_f, ↓onG_tt, onG_tt, ↓onG_tf, onG_tf, ↓onG_ft, onG_ft, ↓onG_ff, onG_ff, ↓onG_s, onG_s, ↓onT_t, onT_t, ↓aPick_t, aPick_t, ↓aPick_f, aPick_f, decide_true, decide_false, st_tmp, results1, results2, List.lookup_cons, List.lookup_nil, Nat.reduceBEq, Bool.false_eq_true, ↓reduceIte, BEq.rfl, Nat.reduceLT, Option.getD_some, Option.getD_none, ↓r48_0, r48_0, ↓r48_1, r48_1, ↓r48_2, r48_2, J48_2_0, J48_2_1, J48_2_2, J48_2_3, J48_2_4, J48_2_5, J48_2_6, ↓r48_3, r48_3, ↓r48_4, r48_4, ↓r48_5, r48_5, J48_5_0, J48_5_1, J48_5_2, ↓r48_6, r48_6, ↓r48_7, r48_7, ↓r48_8, r48_8, ↓r48_9, r48_9, ↓r48_10, r48_10, ↓r48_11, r48_11, ↓r48_12, r48_12, ↓r48_13, r48_13, ↓r48_14, r48_14, ↓r48_15, r48_15, J48_15_0, J48_15_1, J48_15_2, J48_15_3, J48_15_4, size_ok size hs, bin_lss, e]
  | succ m ih =>
    intro i n acc h hi hn up D hacc
    obtain ⟨n, rfl⟩ : ∃ j, n = j + 1 := ⟨n - 1, by omega⟩
    have hf := D.few
    have e : decide (((i + 1 : Nat) : Int) < sizeOf size) = true := decide_eq_true (by omega)
    have wa : IntKind.i64.wrap ((a : Int) + ((i + 1 : Nat) : Int)) = ((a + 1 + i : Nat) : Int) := by rw [wrap_i64] <;> omega
    have wr : IntKind.i64.wrap (((i + 1 : Nat) : Int) + 1) = ((i + 1 + 1 : Nat) : Int) := by rw [wrap_i64] <;> omega
    obtain ⟨y, h1, r1, r2, r3⟩ := read_ok D hl ((a + 1 + i : Nat) : Int) N hN
    have hlt : a + 1 + i < d.now.length := by rw [D.now_length]; omega
    have hrd : d.read ((a + 1 + i : Nat) : Int) = (d.now[a + 1 + i], 0) := by
      unfold Dk.read
      rw [if_pos ⟨by omega, by omega⟩, Int.toNat_natCast, List.getElem?_eq_getElem hlt]
      rfl
    rw [hrd] at r1 r2
    have hlen := D.now_cells _ (List.getElem_mem hlt)
    have hbs := bodyAt_succ d.now a i _ (List.getElem?_eq_getElem hlt)
    have hbl := bodyAt_length d.now D.now_cells a i (by omega)
    generalize d.now[a + 1 + i] = c at *
    have up1 := up.keep r3
    obtain ⟨acc', h2, ap, a2, k2, -⟩ := ApB.append (l := bodyAt d.now a i) (hacc.fresh r3) up1 (new := c) (by intro e; subst e; simp at hlen) (by omega)
    have by2 : By U h1 y c := .inl r2.bs
    have k12 := (r3.up up).trans k2
    rw [← hbs] at a2
    obtain ⟨acc'', h3, g1, g2, g3⟩ := ih (i + 1) n acc' h2 (by omega) (by omega) (up1.keep k2) (D.keep k12 fun j _ hj => dis j hj) a2
    refine ⟨acc'', h3, fun K => ?_, g2, k12.trans g3⟩
    rw [loopK_succ, ← g1 K]
    generalize loopK (_ : (List AV → Heap → Option (AV × Heap)) → List AV → Heap → Option (AV × Heap)) n = Lp
    simp -implicitDefEqProofs only [B48_1, ↓runK_seq, runK_seq, ↓runK_cond, runK_cond, ↓runK_block, runK_block, ↓runK_loop, runK_loop, ↓runK_skip, runK_skip, ↓runK_ret, runK_ret, ↓runK_exit, runK_exit, ↓seqE_n, seqE_n, ↓seqE_e, seqE_e, ↓seqE_r, seqE_r, ↓blkE_n, blkE_n, ↓blkE_e, blkE_e, ↓blkE_r, blkE_r, ↓retK_n, retK_n, ↓retK_r, retK_r, ↓aCall_fn, aCall_fn, ↓bnd_s, bnd_s, ↓bnd2_s, bnd2_s, ↓onB_t, onB_t, ↓onB_f, onB_f, ↓onG_tt, onG_tt, ↓onG_tf, onG_tf, ↓onG_ft, onG_ft, ↓onG_ff, onG_ff, ↓onG_s, onG_s, ↓onT_t, onT_t, ↓aPick_t, aPick_t, ↓aPick_f, aPick_f, decide_true, decide_false, st_tmp, results1, results2, List.lookup_cons, List.lookup_nil, Nat.reduceBEq, Bool.false_eq_true, ↓reduceIte, BEq.rfl, Nat.reduceLT, Option.getD_some, Option.getD_none, ↓r48_0, r48_0, ↓r48_1, r48_1, ↓r48_2, r48_2, J48_2_0, J48_2_1, J48_2_2, J48_2_3, J48_2_4, J48_2_5, J48_2_6, ↓r48_3, r48_3, ↓r48_4, r48_4, ↓r48_5, r48_5, J48_5_0, J48_5_1, J48_5_2, ↓r48_6, r48_6, ↓r48_7, r48_7, ↓r48_8, r48_8, ↓r48_9, r48_9, ↓r48_10, r48_10, ↓r48_11, r48_11, ↓r48_12, r48_12, ↓r48_13, r48_13, ↓r48_14, r48_14, ↓r48_15, r48_15, J48_15_0, J48_15_1, J48_15_2, J48_15_3, J48_15_4, size_ok size hs, bin_lss, e, bin_add, wa, wr, r1, ext0, ext1, app22s by2.src, ap]
def oneOf (now : List (List UInt8)) (at' e gen : Int) : Option (List UInt8) :=
  if 0 ≤ at' ∧ at' < now.length then
    let c := (now[at'.toNat]?).getD []
    if e ≤ at' ∨ get4 c ≠ BitVec.ofInt 32 gen ∨ crc (c.take 12) ≠ get4 (c.drop 12) then none
    else
      let size := (get4 (c.drop 4)).toNat
      if 8192 < size ∨ min e now.length - at' < sizeOf size then none
      else
        let all := bodyAt now at'.toNat ((sizeOf size).toNat - 1)
        let b := all.take size
        if head16 (BitVec.ofInt 32 gen) b = c.take 16 ∧ (c.drop 16).all (· == 0) = true ∧ (all.drop size).all (· == 0) = true then some b else none
  else none
theorem Bs.from {x : AV} {l : List UInt8} (hx : Bs x l) (n : Nat) (hn : n ≤ l.length) : ∃ y, aSlice tab 22 x (some (.int .i64 n)) none none = some y ∧ Bs y (l.drop n) := by
  rcases hx with ⟨rfl, rfl⟩ | ⟨k, rfl⟩
  · obtain rfl : n = 0 := by simpa using hn
    exact ⟨.nils, by simp [aSlice, aBounds, aBound], .inl ⟨rfl, by simp⟩⟩
  · refine ⟨.vsl 5 ((l.drop n).map U8) k, ?_, .inr ⟨_, rfl⟩⟩
    have e : (l.map U8).take l.length = l.map U8 := List.take_of_length_le (by simp)
    simp [aSlice, aBounds, aBound, hn, e, cutTok]
theorem Bs.cut {x : AV} {l : List UInt8} (hx : Bs x l) (n : Nat) (hn : n ≤ l.length) (S : Obs) (h : Heap) : ∃ y, aSlice tab 22 x none (some (.int .i64 n)) (some (.int .i64 n)) = some y ∧ ApB S h y (l.take n) := by
  rcases hx with ⟨rfl, rfl⟩ | ⟨k, rfl⟩
  · obtain rfl : n = 0 := by simpa using hn
    exact ⟨.nils, by simp [aSlice, aBounds, aBound], .inl ⟨rfl, by simp⟩⟩
  · refine ⟨_, by simp [aSlice, aBounds, aBound, hn, cutTok]; rfl, .inr ⟨_, by rw [List.map_take], .inl rfl⟩⟩
theorem oneOf_out {now : List (List UInt8)} {at' e gen : Int} (h : ¬ (0 ≤ at' ∧ at' < now.length)) : oneOf now at' e gen = none := if_neg h
theorem oneOf_head {now : List (List UInt8)} {a : Nat} {e gen : Int} {c : List UInt8} (hc : now[a]? = some c) (h : e ≤ a ∨ get4 c ≠ BitVec.ofInt 32 gen ∨ crc (c.take 12) ≠ get4 (c.drop 12)) : oneOf now a e gen = none := by
  have hlt := (List.getElem?_eq_some_iff.1 hc).1
  unfold oneOf
  rw [if_pos ⟨by omega, by omega⟩]
  simp only [Int.toNat_natCast, hc, Option.getD_some]
  rw [if_pos h]
theorem oneOf_size {now : List (List UInt8)} {a : Nat} {e gen : Int} {c : List UInt8} (hc : now[a]? = some c) (h : ¬ (e ≤ a ∨ get4 c ≠ BitVec.ofInt 32 gen ∨ crc (c.take 12) ≠ get4 (c.drop 12)))
    (h2 : 8192 < (get4 (c.drop 4)).toNat ∨ min e now.length - a < sizeOf (get4 (c.drop 4)).toNat) : oneOf now a e gen = none := by
  have hlt := (List.getElem?_eq_some_iff.1 hc).1
  unfold oneOf
  rw [if_pos ⟨by omega, by omega⟩]
  simp only [Int.toNat_natCast, hc, Option.getD_some]
  rw [if_neg h, if_pos h2]
theorem oneOf_go {now : List (List UInt8)} {a nn : Nat} {e gen : Int} {c : List UInt8} (hc : now[a]? = some c) (h : ¬ (e ≤ a ∨ get4 c ≠ BitVec.ofInt 32 gen ∨ crc (c.take 12) ≠ get4 (c.drop 12)))
    (h2 : ¬ (8192 < (get4 (c.drop 4)).toNat ∨ min e now.length - a < sizeOf (get4 (c.drop 4)).toNat)) (hn : sizeOf (get4 (c.drop 4)).toNat = nn) :
    oneOf now a e gen = if head16 (BitVec.ofInt 32 gen) ((bodyAt now a (nn - 1)).take (get4 (c.drop 4)).toNat) = c.take 16 ∧ (c.drop 16).all (· == 0) = true ∧ ((bodyAt now a (nn - 1)).drop (get4 (c.drop 4)).toNat).all (· == 0) = true
      then some ((bodyAt now a (nn - 1)).take (get4 (c.drop 4)).toNat) else none := by
  have hlt := (List.getElem?_eq_some_iff.1 hc).1
  unfold oneOf
  rw [if_pos ⟨by omega, by omega⟩]
  simp only [Int.toNat_natCast, hc, Option.getD_some]
  rw [if_neg h, if_neg h2, hn, Int.toNat_natCast]
theorem on0 (p : Nat) (at' e gen : Int) : ([dp p, .int .i64 at', .int .i64 e, .int .i64 gen] ++ List.replicate (104 - [dp p, .int .i64 at', .int .i64 e, .int .i64 gen].length) AV.undef) = st 104 [(0, dp p), (1, .int .i64 at'), (2, .int .i64 e), (3, .int .i64 gen)] := rfl
theorem neq27 (a : Int) : aBinC tab .neq 27 (.int .i64 a) (.int .i64 0) true = some (.bool (decide (a ≠ 0))) := bin_neq _ _ _ _ _ _
theorem one_ok {S : Obs} {p r : Nat} {h : Heap} {d : Dk} (D : Dsk S h p r d) (hl : d.loose.length < 2 ^ 30) (at' e gen : Int) (k : Nat) (hk : d.loose.length + 9000 < k) :
    ∃ x h', exFn C0 E0 (k + 1) false 48 [dp p, .int .i64 at', .int .i64 e, .int .i64 gen] h = some (.tuple [x, .bool (oneOf d.now at' e gen).isSome], h') ∧
      (∀ b, oneOf d.now at' e gen = some b → ApB (From h.length) h' x b) ∧ Keep (From h.length) h h' := by
  obtain ⟨k, rfl⟩ : ∃ j, k = j + 9 := ⟨k - 9, by omega⟩
  have up := Up.fresh h
  have hnl := D.now_length
  have hfew := D.few
  obtain ⟨y, h1, r1, r2, r3⟩ := read_ok D hl at' (k + 8) (by omega)
  by_cases h0 : d.has at'
  case neg =>
    have hrd : d.read at' = ([], 1) := if_neg h0
    rw [hrd] at r1
    have ho : oneOf d.now at' e gen = none := oneOf_out (by rw [hnl]; exact h0)
    rw [ho]
    refine ⟨.nils, h1, exFn_of e48 ?_, (fun b hb => by cases hb), r3⟩
    have c1 : decide ((1 : Int) ≠ 0) = true := by decide
    rw [fnK, on0, s48]
    simp -implicitDefEqProofs only [↓runK_seq, runK_seq, ↓runK_cond, runK_cond, ↓runK_block, runK_block, ↓runK_loop, runK_loop, ↓runK_skip, runK_skip, ↓runK_ret, runK_ret, ↓runK_exit, runK_exit, ↓seqE_n, seqE_n, ↓seqE_e, seqE_e, ↓seqE_r, seqE_r, ↓blkE_n, blkE_n, ↓blkE_e, blkE_e, ↓blkE_r, blkE_r, ↓retK_n, retK_n, ↓retK_r, retK_r, ↓aCall_fn, aCall_fn, ↓bnd_s, bnd_s, ↓bnd2_s, bnd2_s, ↓onB_t, onB_t, ↓onB_f, onB_f, ↓onG_tt, onG_tt, ↓onG_tf, onG_tf, ↓onG_ft, onG_ft, ↓onG_ff, onG_ff, ↓onG_s, onG_s, ↓onT_t, onT_t, ↓aPick_t, aPick_t, ↓aPick_f, aPick_f, decide_true, decide_false, st_tmp, results1, results2, List.lookup_cons, List.lookup_nil, Nat.reduceBEq, Bool.false_eq_true, ↓reduceIte, BEq.rfl, Nat.reduceLT, Option.getD_some, Option.getD_none, ↓r48_0, r48_0, ↓r48_1, r48_1, ↓r48_2, r48_2, J48_2_0, J48_2_1, J48_2_2, J48_2_3, J48_2_4, J48_2_5, J48_2_6, ↓r48_3, r48_3, ↓r48_4, r48_4, ↓r48_5, r48_5, J48_5_0, J48_5_1, J48_5_2, ↓r48_6, r48_6, ↓r48_7, r48_7, ↓r48_8, r48_8, ↓r48_9, r48_9, ↓r48_10, r48_10, ↓r48_11, r48_11, ↓r48_12, r48_12, ↓r48_13, r48_13, ↓r48_14, r48_14, ↓r48_15, r48_15, J48_15_0, J48_15_1, J48_15_2, J48_15_3, J48_15_4, r1, ext0, ext1, neq27, c1, Option.isSome_none]
  obtain ⟨a, rfl⟩ : ∃ a : Nat, at' = a := ⟨at'.toNat, by have := h0.1; omega⟩
  have hlt : a < d.now.length := by have := h0.2; omega
  have hrd : d.read (a : Int) = (d.now[a], 0) := by
    unfold Dk.read
    rw [if_pos h0, Int.toNat_natCast, List.getElem?_eq_getElem hlt]
    rfl
  have hlen := D.now_cells _ (List.getElem_mem hlt)
  have hc : d.now[a]? = some d.now[a] := List.getElem?_eq_getElem hlt
  rw [hrd] at r1 r2
  generalize d.now[a] = c at *
  have c0 : decide ((0 : Int) ≠ 0) = false := by decide
  have by1 : Bs y c := r2.bs
  by_cases q1 : e ≤ (a : Int)
  · have e1 : decide (e ≤ (a : Int)) = true := decide_eq_true q1
    rw [oneOf_head hc (.inl q1)]
    refine ⟨.nils, h1, exFn_of e48 ?_, (fun b hb => by cases hb), r3⟩
    rw [fnK, on0, s48]
    simp -implicitDefEqProofs only [↓runK_seq, runK_seq, ↓runK_cond, runK_cond, ↓runK_block, runK_block, ↓runK_loop, runK_loop, ↓runK_skip, runK_skip, ↓runK_ret, runK_ret, ↓runK_exit, runK_exit, ↓seqE_n, seqE_n, ↓seqE_e, seqE_e, ↓seqE_r, seqE_r, ↓blkE_n, blkE_n, ↓blkE_e, blkE_e, ↓blkE_r, blkE_r, ↓retK_n, retK_n, ↓retK_r, retK_r, ↓aCall_fn, aCall_fn, ↓bnd_s, bnd_s, ↓bnd2_s, bnd2_s, ↓onB_t, onB_t, ↓onB_f, onB_f, ↓onG_tt, onG_tt, ↓onG_tf, onG_tf, ↓onG_ft, onG_ft, ↓onG_ff, onG_ff, ↓onG_s, onG_s, ↓onT_t, onT_t, ↓aPick_t, aPick_t, ↓aPick_f, aPick_f, decide_true, decide_false, st_tmp, results1, results2, List.lookup_cons, List.lookup_nil, Nat.reduceBEq, Bool.false_eq_true, ↓reduceIte, BEq.rfl, Nat.reduceLT, Option.getD_some, Option.getD_none, ↓r48_0, r48_0, ↓r48_1, r48_1, ↓r48_2, r48_2, J48_2_0, J48_2_1, J48_2_2, J48_2_3, J48_2_4, J48_2_5, J48_2_6, ↓r48_3, r48_3, ↓r48_4, r48_4, ↓r48_5, r48_5, J48_5_0, J48_5_1, J48_5_2, ↓r48_6, r48_6, ↓r48_7, r48_7, ↓r48_8, r48_8, ↓r48_9, r48_9, ↓r48_10, r48_10, ↓r48_11, r48_11, ↓r48_12, r48_12, ↓r48_13, r48_13, ↓r48_14, r48_14, ↓r48_15, r48_15, J48_15_0, J48_15_1, J48_15_2, J48_15_3, J48_15_4, r1, ext0, ext1, neq27, c0, bin_geq, e1, Option.isSome_none]
  have e1 : decide (e ≤ (a : Int)) = false := decide_eq_false q1
  have g1 := get_ok by1 (by omega) (by omega) false h1 (k + 9) (by omega)
  have cv := conv_64_32 h1 gen
  by_cases q2 : get4 c = BitVec.ofInt 32 gen
  case neg =>
    have e2 : decide (get4 c ≠ BitVec.ofInt 32 gen) = true := decide_eq_true q2
    rw [oneOf_head hc (.inr (.inl q2))]
    refine ⟨.nils, h1, exFn_of e48 ?_, (fun b hb => by cases hb), r3⟩
    rw [fnK, on0, s48]
    simp -implicitDefEqProofs only [↓runK_seq, runK_seq, ↓runK_cond, runK_cond, ↓runK_block, runK_block, ↓runK_loop, runK_loop, ↓runK_skip, runK_skip, ↓runK_ret, runK_ret, ↓runK_exit, runK_exit, ↓seqE_n, seqE_n, ↓seqE_e, seqE_e, ↓seqE_r, seqE_r, ↓blkE_n, blkE_n, ↓blkE_e, blkE_e, ↓blkE_r, blkE_r, ↓retK_n, retK_n, ↓retK_r, retK_r, ↓aCall_fn, aCall_fn, ↓bnd_s, bnd_s, ↓bnd2_s, bnd2_s, ↓onB_t, onB_t, ↓onB_f, onB_f, ↓onG_tt, onG_tt, ↓onG_tf, onG_tf, ↓onG_ft, onG_ft, ↓onG_ff, onG_ff, ↓onG_s, onG_s, ↓onT_t, onT_t, ↓aPick_t, aPick_t, ↓aPick_f, aPick_f, decide_true, decide_false, st_tmp, results1, results2, List.lookup_cons, List.lookup_nil, Nat.reduceBEq, Bool.false_eq_true, ↓reduceIte, BEq.rfl, Nat.reduceLT, Option.getD_some, Option.getD_none, ↓r48_0, r48_0, ↓r48_1, r48_1, ↓r48_2, r48_2, J48_2_0, J48_2_1, J48_2_2, J48_2_3, J48_2_4, J48_2_5, J48_2_6, ↓r48_3, r48_3, ↓r48_4, r48_4, ↓r48_5, r48_5, J48_5_0, J48_5_1, J48_5_2, ↓r48_6, r48_6, ↓r48_7, r48_7, ↓r48_8, r48_8, ↓r48_9, r48_9, ↓r48_10, r48_10, ↓r48_11, r48_11, ↓r48_12, r48_12, ↓r48_13, r48_13, ↓r48_14, r48_14, ↓r48_15, r48_15, J48_15_0, J48_15_1, J48_15_2, J48_15_3, J48_15_4, r1, ext0, ext1, neq27, c0, bin_geq, e1, g1, cv, u32_neq, e2, Option.isSome_none]
  have e2 : decide (get4 c ≠ BitVec.ofInt 32 gen) = false := decide_eq_false (fun h => h q2)
  obtain ⟨z1, sz1, bz1⟩ := by1.to 12 (by omega)
  obtain ⟨z2, sz2, bz2⟩ := by1.from 12 (by omega)
  simp only [Int.cast_ofNat_Int] at sz1 sz2
  have g2 := sum_of bz1 (by simp; omega) false h1 (k + 9) (by simp; omega)
  have g3 := get_ok bz2 (by simp; omega) (by simp; omega) false h1 (k + 9) (by omega)
  by_cases q3 : crc (c.take 12) = get4 (c.drop 12)
  case neg =>
    have e3 : decide (crc (c.take 12) ≠ get4 (c.drop 12)) = true := decide_eq_true q3
    rw [oneOf_head hc (.inr (.inr q3))]
    refine ⟨.nils, h1, exFn_of e48 ?_, (fun b hb => by cases hb), r3⟩
    rw [fnK, on0, s48]
    simp -implicitDefEqProofs only [↓runK_seq, runK_seq, ↓runK_cond, runK_cond, ↓runK_block, runK_block, ↓runK_loop, runK_loop, ↓runK_skip, runK_skip, ↓runK_ret, runK_ret, ↓runK_exit, runK_exit, ↓seqE_n, seqE_n, ↓seqE_e, seqE_e, ↓seqE_r, seqE_r, ↓blkE_n, blkE_n, ↓blkE_e, blkE_e, ↓blkE_r, blkE_r, ↓retK_n, retK_n, ↓retK_r, retK_r, ↓aCall_fn, aCall_fn, ↓bnd_s, bnd_s, ↓bnd2_s, bnd2_s, ↓onB_t, onB_t, ↓onB_f, onB_f, ↓onG_tt, onG_tt, ↓onG_tf, onG_tf, ↓onG_ft, onG_ft, ↓onG_ff, onG_ff, ↓onG_s, onG_s, ↓onT_t, onT_t, ↓aPick_t, aPick_t, ↓aPick_f, aPick_f, decide_true, decide_false, st_tmp, results1, results2, List.lookup_cons, List.lookup_nil, Nat.reduceBEq, Bool.false_eq_true, ↓reduceIte, BEq.rfl, Nat.reduceLT, Option.getD_some, Option.getD_none, ↓r48_0, r48_0, ↓r48_1, r48_1, ↓r48_2, r48_2, J48_2_0, J48_2_1, J48_2_2, J48_2_3, J48_2_4, J48_2_5, J48_2_6, ↓r48_3, r48_3, ↓r48_4, r48_4, ↓r48_5, r48_5, J48_5_0, J48_5_1, J48_5_2, ↓r48_6, r48_6, ↓r48_7, r48_7, ↓r48_8, r48_8, ↓r48_9, r48_9, ↓r48_10, r48_10, ↓r48_11, r48_11, ↓r48_12, r48_12, ↓r48_13, r48_13, ↓r48_14, r48_14, ↓r48_15, r48_15, J48_15_0, J48_15_1, J48_15_2, J48_15_3, J48_15_4, r1, ext0, ext1, neq27, c0, bin_geq, e1, g1, cv, u32_neq, e2, sz1, sz2, g2, g3, e3, Option.isSome_none]
  have e3 : decide (crc (c.take 12) ≠ get4 (c.drop 12)) = false := decide_eq_false (fun h => h q3)
  have hh : ¬ (e ≤ a ∨ get4 c ≠ BitVec.ofInt 32 gen ∨ crc (c.take 12) ≠ get4 (c.drop 12)) := fun h => h.elim q1 fun h => h.elim (fun h => h q2) fun h => h q3
  obtain ⟨z3, sz3, bz3⟩ := by1.from 4 (by omega)
  simp only [Int.cast_ofNat_Int] at sz3
  have g4 := get_ok bz3 (by simp; omega) (by simp; omega) false h1 (k + 9) (by omega)
  have cv2 := conv_32_64 h1 (get4 (c.drop 4))
  have hgo := fun nn h2 hn => oneOf_go (nn := nn) hc hh h2 hn
  have hsize := fun h2 => oneOf_size hc hh h2
  have hsl : (get4 (c.drop 4)).toNat < 2 ^ 32 := (get4 (c.drop 4)).isLt
  generalize hsz : (get4 (c.drop 4)).toNat = size at *
  have D1 := D.fresh r3
  by_cases q4 : 8192 < size
  · have e4 : decide ((8192 : Int) < (size : Nat)) = true := decide_eq_true (by omega)
    rw [hsize (.inl q4)]
    refine ⟨.nils, h1, exFn_of e48 ?_, (fun b hb => by cases hb), r3⟩
    rw [fnK, on0, s48]
    simp -implicitDefEqProofs only [↓runK_seq, runK_seq, ↓runK_cond, runK_cond, ↓runK_block, runK_block, ↓runK_loop, runK_loop, ↓runK_skip, runK_skip, ↓runK_ret, runK_ret, ↓runK_exit, runK_exit, ↓seqE_n, seqE_n, ↓seqE_e, seqE_e, ↓seqE_r, seqE_r, ↓blkE_n, blkE_n, ↓blkE_e, blkE_e, ↓blkE_r, blkE_r, ↓retK_n, retK_n, ↓retK_r, retK_r, ↓aCall_fn, aCall_fn, ↓bnd_s, bnd_s, ↓bnd2_s, bnd2_s, ↓onB_t, onB_t, ↓onB_f, onB_f, ↓onG_tt, onG_tt, ↓onG_tf, onG_tf, ↓onG_ft, onG_ft, ↓onG_ff, onG_ff, ↓onG_s, onG_s, ↓onT_t, onT_t, ↓aPick_t, aPick_t, ↓aPick_f, aPick_f, decide_true, decide_false, st_tmp, results1, results2, List.lookup_cons, List.lookup_nil, Nat.reduceBEq, Bool.false_eq_true, ↓reduceIte, BEq.rfl, Nat.reduceLT, Option.getD_some, Option.getD_none, ↓r48_0, r48_0, ↓r48_1, r48_1, ↓r48_2, r48_2, J48_2_0, J48_2_1, J48_2_2, J48_2_3, J48_2_4, J48_2_5, J48_2_6, ↓r48_3, r48_3, ↓r48_4, r48_4, ↓r48_5, r48_5, J48_5_0, J48_5_1, J48_5_2, ↓r48_6, r48_6, ↓r48_7, r48_7, ↓r48_8, r48_8, ↓r48_9, r48_9, ↓r48_10, r48_10, ↓r48_11, r48_11, ↓r48_12, r48_12, ↓r48_13, r48_13, ↓r48_14, r48_14, ↓r48_15, r48_15, J48_15_0, J48_15_1, J48_15_2, J48_15_3, J48_15_4, r1, ext0, ext1, neq27, c0, bin_geq, e1, g1, cv, u32_neq, e2, sz1, sz2, g2, g3, e3, sz3, g4, cv2, bin_gtr, e4, Option.isSome_none]
  have e4 : decide ((8192 : Int) < (size : Nat)) = false := decide_eq_false (by omega)
  have sk := size_ok (size : Int) (by omega) false h1 (k + 8)
  have lk := len_ok D1 false (k + 8)
  have mn : (if ((d.lasts.length : Nat) : Int) < e then ((d.lasts.length : Nat) : Int) else e) = min e d.now.length := by rw [hnl]; split <;> omega
  have ws : IntKind.i64.wrap (min e d.now.length - (a : Int)) = min e d.now.length - a := by rw [wrap_i64] <;> omega
  by_cases q5 : min e d.now.length - (a : Int) < sizeOf size
  · have e5 : decide (min e d.now.length - (a : Int) < sizeOf size) = true := decide_eq_true q5
    rw [hsize (.inr q5)]
    refine ⟨.nils, h1, exFn_of e48 ?_, (fun b hb => by cases hb), r3⟩
    rw [fnK, on0, s48]
    simp -implicitDefEqProofs only [↓runK_seq, runK_seq, ↓runK_cond, runK_cond, ↓runK_block, runK_block, ↓runK_loop, runK_loop, ↓runK_skip, runK_skip, ↓runK_ret, runK_ret, ↓runK_exit, runK_exit, ↓seqE_n, seqE_n, ↓seqE_e, seqE_e, ↓seqE_r, seqE_r, ↓blkE_n, blkE_n, ↓blkE_e, blkE_e, ↓blkE_r, blkE_r, ↓retK_n, retK_n, ↓retK_r, retK_r, ↓aCall_fn, aCall_fn, ↓bnd_s, bnd_s, ↓bnd2_s, bnd2_s, ↓onB_t, onB_t, ↓onB_f, onB_f, ↓onG_tt, onG_tt, ↓onG_tf, onG_tf, ↓onG_ft, onG_ft, ↓onG_ff, onG_ff, ↓onG_s, onG_s, ↓onT_t, onT_t, ↓aPick_t, aPick_t, ↓aPick_f, aPick_f, decide_true, decide_false, st_tmp, results1, results2, List.lookup_cons, List.lookup_nil, Nat.reduceBEq, Bool.false_eq_true, ↓reduceIte, BEq.rfl, Nat.reduceLT, Option.getD_some, Option.getD_none, ↓r48_0, r48_0, ↓r48_1, r48_1, ↓r48_2, r48_2, J48_2_0, J48_2_1, J48_2_2, J48_2_3, J48_2_4, J48_2_5, J48_2_6, ↓r48_3, r48_3, ↓r48_4, r48_4, ↓r48_5, r48_5, J48_5_0, J48_5_1, J48_5_2, ↓r48_6, r48_6, ↓r48_7, r48_7, ↓r48_8, r48_8, ↓r48_9, r48_9, ↓r48_10, r48_10, ↓r48_11, r48_11, ↓r48_12, r48_12, ↓r48_13, r48_13, ↓r48_14, r48_14, ↓r48_15, r48_15, J48_15_0, J48_15_1, J48_15_2, J48_15_3, J48_15_4, r1, ext0, ext1, neq27, c0, bin_geq, e1, g1, cv, u32_neq, e2, sz1, sz2, g2, g3, e3, sz3, g4, cv2, bin_gtr, e4, sk, lk, min2_i64, mn, bin_sub, ws, e5, Option.isSome_none]
  have e5 : decide (min e d.now.length - (a : Int) < sizeOf size) = false := decide_eq_false q5
  obtain ⟨nn, hnn⟩ : ∃ nn : Nat, sizeOf size = nn := ⟨(sizeOf size).toNat, by unfold sizeOf; omega⟩
  have hnn1 : (nn : Int) = 1 + ((size : Int) + 63) / 64 := by rw [← hnn]; unfold sizeOf; omega
  rw [hgo nn (fun h => h.elim q4 q5) hnn]
  have han : a + nn ≤ d.lasts.length := by omega
  have a0 : ApB (From h.length) h1 .nils (bodyAt d.now a 0) := .inl ⟨rfl, by simp [bodyAt]⟩
  obtain ⟨acc, h2, f1, f2, f3⟩ := one_loop (U := From h.length) hl (S := fun i => i < h.length) (fun i hi hj => absurd hj (Nat.not_le.2 hi)) a nn size (by omega) hnn han (.int .i64 gen) y (k + 8) (by omega)
    (nn - 1) 0 (k + 9) .nils h1 (by omega) (by omega) (up.keep r3) (D.low.fresh r3) a0
  have hbl := bodyAt_length d.now D.now_cells a (nn - 1) (by omega)
  generalize bodyAt d.now a (nn - 1) = all at *
  rw [show ((0 + 1 : Nat) : Int) = 1 from rfl] at f1
  obtain ⟨w1, sw1, bw1⟩ := f2.bs.from size (by omega)
  obtain ⟨w2, sw2, bw2⟩ := f2.bs.cut size (by omega) (From h.length) h2
  have hbt : (all.take size).length = size := by rw [List.length_take]; omega
  obtain ⟨w3, h3, p1, p2, p3⟩ := first_ok bw2.bs (by omega) gen h2 (k + 8) (by omega)
  obtain ⟨w4, sw4, bw4⟩ := by1.to 16 (by omega)
  obtain ⟨w5, sw5, bw5⟩ := by1.from 16 (by omega)
  simp only [Int.cast_ofNat_Int] at sw4 sw5
  have t1 := equal_ok p2.bs bw4 false h3 (k + 8)
  have t2 := zero_ok bw5 false h3 (k + 6)
  have t3 := zero_ok bw1 false h3 (k + 6)
  have run : ∀ ok : Bool, (head16 (BitVec.ofInt 32 gen) (all.take size) = c.take 16 ∧ (c.drop 16).all (· == 0) = true ∧ (all.drop size).all (· == 0) = true ↔ ok = true) →
      exFn C0 E0 (k + 9 + 1) false 48 [dp p, .int .i64 a, .int .i64 e, .int .i64 gen] h = some (.tuple [w2, .bool ok], h3) := by
    intro ok hok
    refine exFn_of e48 ?_
    rw [fnK, on0, s48]
    simp -implicitDefEqProofs only [↓runK_seq, runK_seq, ↓runK_cond, runK_cond, ↓runK_block, runK_block, ↓runK_loop, runK_loop, ↓runK_skip, runK_skip, ↓runK_ret, runK_ret, ↓runK_exit, runK_exit, ↓seqE_n, seqE_n, ↓seqE_e, seqE_e, ↓seqE_r, seqE_r, ↓blkE_n, blkE_n, ↓blkE_e, blkE_e, ↓blkE_r, blkE_r, ↓retK_n, retK_n, ↓retK_r, retK_r, ↓aCall_fn, aCall_fn, ↓bnd_s, bnd_s, ↓bnd2_s, bnd2_s, ↓onB_t, onB_t, ↓onB_f, onB_f, ↓onG_tt, onG_tt, ↓onG_tf, onG_tf, ↓onG_ft, onG_ft, ↓onG_ff, onG_ff, ↓onG_s, onG_s, ↓onT_t, onT_t, ↓aPick_t, aPick_t, ↓aPick_f, aPick_f, decide_true, decide_false, st_tmp, results1, results2, List.lookup_cons, List.lookup_nil, Nat.reduceBEq, Bool.false_eq_true, ↓reduceIte, BEq.rfl, Nat.reduceLT, Option.getD_some, Option.getD_none, ↓r48_0, r48_0, ↓r48_1, r48_1, ↓r48_2, r48_2, J48_2_0, J48_2_1, J48_2_2, J48_2_3, J48_2_4, J48_2_5, J48_2_6, ↓r48_3, r48_3, ↓r48_4, r48_4, ↓r48_5, r48_5, J48_5_0, J48_5_1, J48_5_2, ↓r48_6, r48_6, ↓r48_7, r48_7, ↓r48_8, r48_8, ↓r48_9, r48_9, ↓r48_10, r48_10, ↓r48_11, r48_11, ↓r48_12, r48_12, ↓r48_13, r48_13, ↓r48_14, r48_14, ↓r48_15, r48_15, J48_15_0, J48_15_1, J48_15_2, J48_15_3, J48_15_4, r1, ext0, ext1, neq27, c0, bin_geq, e1, g1, cv, u32_neq, e2, sz1, sz2, g2, g3, e3, sz3, g4, cv2, bin_gtr, e4, sk, lk, min2_i64, mn, bin_sub, ws, e5, f1, sw1, sw2, p1, sw4, t1]
    by_cases m1 : head16 (BitVec.ofInt 32 gen) (all.take size) = c.take 16
    · rw [show decide (head16 (BitVec.ofInt 32 gen) (all.take size) = c.take 16) = true from decide_eq_true m1]
      cases m2 : (c.drop 16).all (· == 0)
      · obtain rfl : ok = false := by simpa [m2] using hok
        rw [m2] at t2
        simp -implicitDefEqProofs only [↓runK_seq, runK_seq, ↓runK_cond, runK_cond, ↓runK_block, runK_block, ↓runK_loop, runK_loop, ↓runK_skip, runK_skip, ↓runK_ret, runK_ret, ↓runK_exit, runK_exit, ↓seqE_n, seqE_n, ↓seqE_e, seqE_e, ↓seqE_r, seqE_r, ↓blkE_n, blkE_n, ↓blkE_e, blkE_e, ↓blkE_r, blkE_r, ↓retK_n, retK_n, ↓retK_r, retK_r, ↓aCall_fn, aCall_fn, ↓bnd_s, bnd_s, ↓bnd2_s, bnd2_s, ↓onB_t, onB_t, ↓onB_f, onB_f, ↓onG_tt, onG_tt, ↓onG_tf, onG_tf, ↓onG_ft, onG_ft, ↓onG_ff, onG_ff, ↓onG_s, onG_s, ↓onT_t, onT_t, ↓aPick_t, aPick_t, ↓aPick_f, aPick_f, decide_true, decide_false, st_tmp, results1, results2, List.lookup_cons, List.lookup_nil, Nat.reduceBEq, Bool.false_eq_true, ↓reduceIte, BEq.rfl, Nat.reduceLT, Option.getD_some, Option.getD_none, ↓r48_0, r48_0, ↓r48_1, r48_1, ↓r48_2, r48_2, J48_2_0, J48_2_1, J48_2_2, J48_2_3, J48_2_4, J48_2_5, J48_2_6, ↓r48_3, r48_3, ↓r48_4, r48_4, ↓r48_5, r48_5, J48_5_0, J48_5_1, J48_5_2, ↓r48_6, r48_6, ↓r48_7, r48_7, ↓r48_8, r48_8, ↓r48_9, r48_9, ↓r48_10, r48_10, ↓r48_11, r48_11, ↓r48_12, r48_12, ↓r48_13, r48_13, ↓r48_14, r48_14, ↓r48_15, r48_15, J48_15_0, J48_15_1, J48_15_2, J48_15_3, J48_15_4, sw5, t2]
      · rw [m2] at t2
        cases m3 : (all.drop size).all (· == 0)
        · obtain rfl : ok = false := by simpa [m3] using hok
          rw [m3] at t3
          simp -implicitDefEqProofs only [↓runK_seq, runK_seq, ↓runK_cond, runK_cond, ↓runK_block, runK_block, ↓runK_loop, runK_loop, ↓runK_skip, runK_skip, ↓runK_ret, runK_ret, ↓runK_exit, runK_exit, ↓seqE_n, seqE_n, ↓seqE_e, seqE_e, ↓seqE_r, seqE_r, ↓blkE_n, blkE_n, ↓blkE_e, blkE_e, ↓blkE_r, blkE_r, ↓retK_n, retK_n, ↓retK_r, retK_r, ↓aCall_fn, aCall_fn, ↓bnd_s, bnd_s, ↓bnd2_s, bnd2_s, ↓onB_t, onB_t, ↓onB_f, onB_f, ↓onG_tt, onG_tt, ↓onG_tf, onG_tf, ↓onG_ft, onG_ft, ↓onG_ff, onG_ff, ↓onG_s, onG_s, ↓onT_t, onT_t, ↓aPick_t, aPick_t, ↓aPick_f, aPick_f, decide_true, decide_false, st_tmp, results1, results2, List.lookup_cons, List.lookup_nil, Nat.reduceBEq, Bool.false_eq_true, ↓reduceIte, BEq.rfl, Nat.reduceLT, Option.getD_some, Option.getD_none, ↓r48_0, r48_0, ↓r48_1, r48_1, ↓r48_2, r48_2, J48_2_0, J48_2_1, J48_2_2, J48_2_3, J48_2_4, J48_2_5, J48_2_6, ↓r48_3, r48_3, ↓r48_4, r48_4, ↓r48_5, r48_5, J48_5_0, J48_5_1, J48_5_2, ↓r48_6, r48_6, ↓r48_7, r48_7, ↓r48_8, r48_8, ↓r48_9, r48_9, ↓r48_10, r48_10, ↓r48_11, r48_11, ↓r48_12, r48_12, ↓r48_13, r48_13, ↓r48_14, r48_14, ↓r48_15, r48_15, J48_15_0, J48_15_1, J48_15_2, J48_15_3, J48_15_4, sw5, t2, t3]
        · obtain rfl : ok = true := by simpa [m1, m2, m3] using hok
          rw [m3] at t3
          simp -implicitDefEqProofs only [↓runK_seq, runK_seq, ↓runK_cond, runK_cond, ↓runK_block, runK_block, ↓runK_loop, runK_loop, ↓runK_skip, runK_skip, ↓runK_ret, runK_ret, ↓runK_exit, runK_exit, ↓seqE_n, seqE_n, ↓seqE_e, seqE_e, ↓seqE_r, seqE_r, ↓blkE_n, blkE_n, ↓blkE_e, blkE_e, ↓blkE_r, blkE_r, ↓retK_n, retK_n, ↓retK_r, retK_r, ↓aCall_fn, aCall_fn, ↓bnd_s, bnd_s, ↓bnd2_s, bnd2_s, ↓onB_t, onB_t, ↓onB_f, onB_f, ↓onG_tt, onG_tt, ↓onG_tf, onG_tf, ↓onG_ft, onG_ft, ↓onG_ff, onG_ff, ↓onG_s, onG_s, ↓onT_t, onT_t, ↓aPick_t, aPick_t, ↓aPick_f, aPick_f, decide_true, decide_false, st_tmp, results1, results2, List.lookup_cons, List.lookup_nil, Nat.reduceBEq, Bool.false_eq_true, ↓reduceIte, BEq.rfl, Nat.reduceLT, Option.getD_some, Option.getD_none, ↓r48_0, r48_0, ↓r48_1, r48_1, ↓r48_2, r48_2, J48_2_0, J48_2_1, J48_2_2, J48_2_3, J48_2_4, J48_2_5, J48_2_6, ↓r48_3, r48_3, ↓r48_4, r48_4, ↓r48_5, r48_5, J48_5_0, J48_5_1, J48_5_2, ↓r48_6, r48_6, ↓r48_7, r48_7, ↓r48_8, r48_8, ↓r48_9, r48_9, ↓r48_10, r48_10, ↓r48_11, r48_11, ↓r48_12, r48_12, ↓r48_13, r48_13, ↓r48_14, r48_14, ↓r48_15, r48_15, J48_15_0, J48_15_1, J48_15_2, J48_15_3, J48_15_4, sw5, t2, t3]
    · obtain rfl : ok = false := by simpa [m1] using hok
      rw [show decide (head16 (BitVec.ofInt 32 gen) (all.take size) = c.take 16) = false from decide_eq_false m1]
      simp -implicitDefEqProofs only [↓runK_seq, runK_seq, ↓runK_cond, runK_cond, ↓runK_block, runK_block, ↓runK_loop, runK_loop, ↓runK_skip, runK_skip, ↓runK_ret, runK_ret, ↓runK_exit, runK_exit, ↓seqE_n, seqE_n, ↓seqE_e, seqE_e, ↓seqE_r, seqE_r, ↓blkE_n, blkE_n, ↓blkE_e, blkE_e, ↓blkE_r, blkE_r, ↓retK_n, retK_n, ↓retK_r, retK_r, ↓aCall_fn, aCall_fn, ↓bnd_s, bnd_s, ↓bnd2_s, bnd2_s, ↓onB_t, onB_t, ↓onB_f, onB_f, ↓onG_tt, onG_tt, ↓onG_tf, onG_tf, ↓onG_ft, onG_ft, ↓onG_ff, onG_ff, ↓onG_s, onG_s, ↓onT_t, onT_t, ↓aPick_t, aPick_t, ↓aPick_f, aPick_f, decide_true, decide_false, st_tmp, results1, results2, List.lookup_cons, List.lookup_nil, Nat.reduceBEq, Bool.false_eq_true, ↓reduceIte, BEq.rfl, Nat.reduceLT, Option.getD_some, Option.getD_none, ↓r48_0, r48_0, ↓r48_1, r48_1, ↓r48_2, r48_2, J48_2_0, J48_2_1, J48_2_2, J48_2_3, J48_2_4, J48_2_5, J48_2_6, ↓r48_3, r48_3, ↓r48_4, r48_4, ↓r48_5, r48_5, J48_5_0, J48_5_1, J48_5_2, ↓r48_6, r48_6, ↓r48_7, r48_7, ↓r48_8, r48_8, ↓r48_9, r48_9, ↓r48_10, r48_10, ↓r48_11, r48_11, ↓r48_12, r48_12, ↓r48_13, r48_13, ↓r48_14, r48_14, ↓r48_15, r48_15, J48_15_0, J48_15_1, J48_15_2, J48_15_3, J48_15_4]
  have kk := ((r3.trans f3).fresh p3 up)
  split
  · rename_i hcond
    refine ⟨w2, h3, run true (by simpa using hcond), fun b hb => ?_, kk⟩
    cases hb
    exact bw2.fresh p3
  · rename_i hcond
    exact ⟨w2, h3, run false (by simpa using hcond), (fun b hb => by cases hb), kk⟩
end Go.Ax

set_option linter.unusedVariables false
namespace Go.Ax
open Go Go.Proofs
noncomputable def O14 (i : Nat) : Array Oper := opsOf i (bodyOf Try.f14)
noncomputable def B14_1 : Code := (.seq (.seq (.region 7 (O14 7) false) (.cond (Go.Operand.tmp 52) .skip (.exit 0))) (.seq (.block 1 (.seq (.region 9 (O14 9) false) (.seq (.region 10 (O14 10) false) (.seq (.region 11 (O14 11) false) (.cond (Go.Operand.tmp 72) (.seq (.region 12 (O14 12) false) .ret) .skip))))) (.region 8 (O14 8) false)))
theorem s14 : bodyOf Try.f14 = (.seq (.region 0 (O14 0) false) (.seq (.seq (.region 1 (O14 1) false) (.cond (Go.Operand.tmp 33) (.seq (.region 2 (O14 2) false) .ret) .skip)) (.seq (.region 3 (O14 3) false) (.seq (.seq (.region 4 (O14 4) false) (.cond (Go.Operand.tmp 49) (.seq (.region 5 (O14 5) false) .ret) .skip)) (.seq (.seq (.region 6 (O14 6) false) (.block 0 (.loop B14_1))) (.seq (.seq (.region 13 (O14 13) false) (.seq (.region 14 (O14 14) false) (.cond (Go.Operand.tmp 77) (.seq (.region 15 (O14 15) false) .ret) .skip))) (.seq (.seq (.region 16 (O14 16) false) (.seq (.region 17 (O14 17) false) (.cond (Go.Operand.tmp 86) (.seq (.region 18 (O14 18) false) .ret) .skip))) (.seq (.seq (.region 19 (O14 19) false) (.seq (.region 20 (O14 20) false) (.cond (Go.Operand.tmp 91) (.seq (.region 21 (O14 21) false) .ret) .skip))) (.seq (.region 22 (O14 22) false) .ret))))))))) := by kernel_rfl
theorem e14 : E0 14 = some ⟨96, [10, 11], bodyOf Try.f14⟩ := by kernel_rfl
theorem r14_0 {β : Type} (call : CallF) (md : Bool) (n : Nat) (k : Ex → List AV → Heap → Option β) (x0 x1 x2 x3 x4 : AV) (h : Heap) :
    runK C0 call md 14 n (.region 0 (O14 0) false) k (st 96 [(0, x0), (1, x1), (2, x2), (3, x3), (4, x4)]) h =
    k .normal (st 96 [(0, x0), (1, x1), (2, x2), (3, x3), (4, x4)]) h
  := by kernel_rfl
def J14_1_6 {β : Type} (call : CallF) (md : Bool) (k : Ex → List AV → Heap → Option β) (x0 x1 x2 x3 x4 x30 x32 : AV) (h : Heap) : Option β :=
    bnd (aPick x30 (.bool true) x32) fun v1 =>
    k .normal (st 96 [(0, x0), (1, x1), (2, x2), (3, x3), (4, x4), (33, v1)]) h
theorem j14_1_6 {β : Type} (call : CallF) (md : Bool) (k : Ex → List AV → Heap → Option β) (x0 x1 x2 x3 x4 x19 x20 x21 x22 x23 x24 x25 x26 x27 x28 x29 x30 x31 x32 : AV) (h : Heap) :
    opsK C0 call md 14 (O14 1) ((O14 1).toList.drop 14) (st 96 [(0, x0), (1, x1), (2, x2), (3, x3), (4, x4), (19, x19), (20, x20), (21, x21), (22, x22), (23, x23), (24, x24), (25, x25), (26, x26), (27, x27), (28, x28), (29, x29), (30, x30), (31, x31), (32, x32)]) h (fun tm h => k .normal (clr (C0.keep 14 1) tm) h) = J14_1_6 call md k x0 x1 x2 x3 x4 x30 x32 h := by kernel_rfl
def J14_1_5 {β : Type} (call : CallF) (md : Bool) (k : Ex → List AV → Heap → Option β) (x0 x1 x2 x3 x4 x30 : AV) (h : Heap) : Option β :=
    onG false x30 (
      bnd (aBinC tab .lss 3 x1 (.int .i64 0) true) fun v3 =>
      J14_1_6 call md k x0 x1 x2 x3 x4 x30 v3 h) (
      J14_1_6 call md k x0 x1 x2 x3 x4 x30 .skip h)
theorem g14_1_5 {β : Type} (call : CallF) (md : Bool) (kk : List AV → Heap → Option β) (x0 x1 x2 x3 x4 x19 x20 x21 x22 x23 x24 x25 x26 x27 x28 x29 x30 : AV) (h : Heap) :
    opsK C0 call md 14 (O14 1) (((O14 1).toList.drop 12).take 2) (st 96 [(0, x0), (1, x1), (2, x2), (3, x3), (4, x4), (19, x19), (20, x20), (21, x21), (22, x22), (23, x23), (24, x24), (25, x25), (26, x26), (27, x27), (28, x28), (29, x29), (30, x30)]) h kk =
    onG false x30 (
      bnd (aBinC tab .lss 3 x1 (.int .i64 0) true) fun v4 =>
      kk (st 96 [(0, x0), (1, x1), (2, x2), (3, x3), (4, x4), (19, x19), (20, x20), (21, x21), (22, x22), (23, x23), (24, x24), (25, x25), (26, x26), (27, x27), (28, x28), (29, x29), (30, x30), (31, x1), (32, v4)]) h) (
      kk (st 96 [(0, x0), (1, x1), (2, x2), (3, x3), (4, x4), (19, x19), (20, x20), (21, x21), (22, x22), (23, x23), (24, x24), (25, x25), (26, x26), (27, x27), (28, x28), (29, x29), (30, x30), (31, .skip), (32, .skip)]) h)
  := by cases x30 with | bool b => (cases b <;> kernel_rfl) | _ => kernel_rfl
theorem j14_1_5 {β : Type} (call : CallF) (md : Bool) (k : Ex → List AV → Heap → Option β) (x0 x1 x2 x3 x4 x19 x20 x21 x22 x23 x24 x25 x26 x27 x28 x29 x30 : AV) (h : Heap) :
    opsK C0 call md 14 (O14 1) ((O14 1).toList.drop 12) (st 96 [(0, x0), (1, x1), (2, x2), (3, x3), (4, x4), (19, x19), (20, x20), (21, x21), (22, x22), (23, x23), (24, x24), (25, x25), (26, x26), (27, x27), (28, x28), (29, x29), (30, x30)]) h (fun tm h => k .normal (clr (C0.keep 14 1) tm) h) = J14_1_5 call md k x0 x1 x2 x3 x4 x30 h := by
  have e : ((O14 1).toList.drop 12) = ((O14 1).toList.drop 12).take 2 ++ (O14 1).toList.drop 14 := by kernel_rfl
  rw [show opsK C0 call md 14 (O14 1) ((O14 1).toList.drop 12) = opsK C0 call md 14 (O14 1) (((O14 1).toList.drop 12).take 2 ++ (O14 1).toList.drop 14) from congrArg _ e]
  rw [opsK_append, g14_1_5]
  simp only [j14_1_6]
  rfl
def J14_1_4 {β : Type} (call : CallF) (md : Bool) (k : Ex → List AV → Heap → Option β) (x0 x1 x2 x3 x4 x26 x28 : AV) (h : Heap) : Option β :=
    bnd (aPick x26 (.bool true) x28) fun v5 =>
    J14_1_5 call md k x0 x1 x2 x3 x4 v5 h
theorem g14_1_4 {β : Type} (call : CallF) (md : Bool) (kk : List AV → Heap → Option β) (x0 x1 x2 x3 x4 x19 x20 x21 x22 x23 x24 x25 x26 x27 x28 : AV) (h : Heap) :
    opsK C0 call md 14 (O14 1) (((O14 1).toList.drop 10).take 2) (st 96 [(0, x0), (1, x1), (2, x2), (3, x3), (4, x4), (19, x19), (20, x20), (21, x21), (22, x22), (23, x23), (24, x24), (25, x25), (26, x26), (27, x27), (28, x28)]) h kk =
    bnd (aPick x26 (.bool true) x28) fun v6 =>
    kk (st 96 [(0, x0), (1, x1), (2, x2), (3, x3), (4, x4), (19, x19), (20, x20), (21, x21), (22, x22), (23, x23), (24, x24), (25, x25), (26, x26), (27, x27), (28, x28), (29, v6), (30, v6)]) h
  := by kernel_rfl
theorem j14_1_4 {β : Type} (call : CallF) (md : Bool) (k : Ex → List AV → Heap → Option β) (x0 x1 x2 x3 x4 x19 x20 x21 x22 x23 x24 x25 x26 x27 x28 : AV) (h : Heap) :
    opsK C0 call md 14 (O14 1) ((O14 1).toList.drop 10) (st 96 [(0, x0), (1, x1), (2, x2), (3, x3), (4, x4), (19, x19), (20, x20), (21, x21), (22, x22), (23, x23), (24, x24), (25, x25), (26, x26), (27, x27), (28, x28)]) h (fun tm h => k .normal (clr (C0.keep 14 1) tm) h) = J14_1_4 call md k x0 x1 x2 x3 x4 x26 x28 h := by
  have e : ((O14 1).toList.drop 10) = ((O14 1).toList.drop 10).take 2 ++ (O14 1).toList.drop 12 := by kernel_rfl
  rw [show opsK C0 call md 14 (O14 1) ((O14 1).toList.drop 10) = opsK C0 call md 14 (O14 1) (((O14 1).toList.drop 10).take 2 ++ (O14 1).toList.drop 12) from congrArg _ e]
  rw [opsK_append, g14_1_4]
  simp only [j14_1_5]
  rfl
def J14_1_3 {β : Type} (call : CallF) (md : Bool) (k : Ex → List AV → Heap → Option β) (x0 x1 x2 x3 x4 x26 : AV) (h : Heap) : Option β :=
    onG false x26 (
      bnd (aBinC tab .gtr 3 x3 (.int .i64 2147483647) true) fun v7 =>
      J14_1_4 call md k x0 x1 x2 x3 x4 x26 v7 h) (
      J14_1_4 call md k x0 x1 x2 x3 x4 x26 .skip h)
theorem g14_1_3 {β : Type} (call : CallF) (md : Bool) (kk : List AV → Heap → Option β) (x0 x1 x2 x3 x4 x19 x20 x21 x22 x23 x24 x25 x26 : AV) (h : Heap) :
    opsK C0 call md 14 (O14 1) (((O14 1).toList.drop 8).take 2) (st 96 [(0, x0), (1, x1), (2, x2), (3, x3), (4, x4), (19, x19), (20, x20), (21, x21), (22, x22), (23, x23), (24, x24), (25, x25), (26, x26)]) h kk =
    onG false x26 (
      bnd (aBinC tab .gtr 3 x3 (.int .i64 2147483647) true) fun v8 =>
      kk (st 96 [(0, x0), (1, x1), (2, x2), (3, x3), (4, x4), (19, x19), (20, x20), (21, x21), (22, x22), (23, x23), (24, x24), (25, x25), (26, x26), (27, x3), (28, v8)]) h) (
      kk (st 96 [(0, x0), (1, x1), (2, x2), (3, x3), (4, x4), (19, x19), (20, x20), (21, x21), (22, x22), (23, x23), (24, x24), (25, x25), (26, x26), (27, .skip), (28, .skip)]) h)
  := by cases x26 with | bool b => (cases b <;> kernel_rfl) | _ => kernel_rfl
theorem j14_1_3 {β : Type} (call : CallF) (md : Bool) (k : Ex → List AV → Heap → Option β) (x0 x1 x2 x3 x4 x19 x20 x21 x22 x23 x24 x25 x26 : AV) (h : Heap) :
    opsK C0 call md 14 (O14 1) ((O14 1).toList.drop 8) (st 96 [(0, x0), (1, x1), (2, x2), (3, x3), (4, x4), (19, x19), (20, x20), (21, x21), (22, x22), (23, x23), (24, x24), (25, x25), (26, x26)]) h (fun tm h => k .normal (clr (C0.keep 14 1) tm) h) = J14_1_3 call md k x0 x1 x2 x3 x4 x26 h := by
  have e : ((O14 1).toList.drop 8) = ((O14 1).toList.drop 8).take 2 ++ (O14 1).toList.drop 10 := by kernel_rfl
  rw [show opsK C0 call md 14 (O14 1) ((O14 1).toList.drop 8) = opsK C0 call md 14 (O14 1) (((O14 1).toList.drop 8).take 2 ++ (O14 1).toList.drop 10) from congrArg _ e]
  rw [opsK_append, g14_1_3]
  simp only [j14_1_4]
  rfl
def J14_1_2 {β : Type} (call : CallF) (md : Bool) (k : Ex → List AV → Heap → Option β) (x0 x1 x2 x3 x4 x22 x24 : AV) (h : Heap) : Option β :=
    bnd (aPick x22 (.bool true) x24) fun v9 =>
    J14_1_3 call md k x0 x1 x2 x3 x4 v9 h
theorem g14_1_2 {β : Type} (call : CallF) (md : Bool) (kk : List AV → Heap → Option β) (x0 x1 x2 x3 x4 x19 x20 x21 x22 x23 x24 : AV) (h : Heap) :
    opsK C0 call md 14 (O14 1) (((O14 1).toList.drop 6).take 2) (st 96 [(0, x0), (1, x1), (2, x2), (3, x3), (4, x4), (19, x19), (20, x20), (21, x21), (22, x22), (23, x23), (24, x24)]) h kk =
    bnd (aPick x22 (.bool true) x24) fun v10 =>
    kk (st 96 [(0, x0), (1, x1), (2, x2), (3, x3), (4, x4), (19, x19), (20, x20), (21, x21), (22, x22), (23, x23), (24, x24), (25, v10), (26, v10)]) h
  := by kernel_rfl
theorem j14_1_2 {β : Type} (call : CallF) (md : Bool) (k : Ex → List AV → Heap → Option β) (x0 x1 x2 x3 x4 x19 x20 x21 x22 x23 x24 : AV) (h : Heap) :
    opsK C0 call md 14 (O14 1) ((O14 1).toList.drop 6) (st 96 [(0, x0), (1, x1), (2, x2), (3, x3), (4, x4), (19, x19), (20, x20), (21, x21), (22, x22), (23, x23), (24, x24)]) h (fun tm h => k .normal (clr (C0.keep 14 1) tm) h) = J14_1_2 call md k x0 x1 x2 x3 x4 x22 x24 h := by
  have e : ((O14 1).toList.drop 6) = ((O14 1).toList.drop 6).take 2 ++ (O14 1).toList.drop 8 := by kernel_rfl
  rw [show opsK C0 call md 14 (O14 1) ((O14 1).toList.drop 6) = opsK C0 call md 14 (O14 1) (((O14 1).toList.drop 6).take 2 ++ (O14 1).toList.drop 8) from congrArg _ e]
  rw [opsK_append, g14_1_2]
  simp only [j14_1_3]
  rfl
def J14_1_1 {β : Type} (call : CallF) (md : Bool) (k : Ex → List AV → Heap → Option β) (x0 x1 x2 x3 x4 x22 : AV) (h : Heap) : Option β :=
    onG false x22 (
      bnd (aBinC tab .lss 3 x3 (.int .i64 0) true) fun v11 =>
      J14_1_2 call md k x0 x1 x2 x3 x4 x22 v11 h) (
      J14_1_2 call md k x0 x1 x2 x3 x4 x22 .skip h)
theorem g14_1_1 {β : Type} (call : CallF) (md : Bool) (kk : List AV → Heap → Option β) (x0 x1 x2 x3 x4 x19 x20 x21 x22 : AV) (h : Heap) :
    opsK C0 call md 14 (O14 1) (((O14 1).toList.drop 4).take 2) (st 96 [(0, x0), (1, x1), (2, x2), (3, x3), (4, x4), (19, x19), (20, x20), (21, x21), (22, x22)]) h kk =
    onG false x22 (
      bnd (aBinC tab .lss 3 x3 (.int .i64 0) true) fun v12 =>
      kk (st 96 [(0, x0), (1, x1), (2, x2), (3, x3), (4, x4), (19, x19), (20, x20), (21, x21), (22, x22), (23, x3), (24, v12)]) h) (
      kk (st 96 [(0, x0), (1, x1), (2, x2), (3, x3), (4, x4), (19, x19), (20, x20), (21, x21), (22, x22), (23, .skip), (24, .skip)]) h)
  := by cases x22 with | bool b => (cases b <;> kernel_rfl) | _ => kernel_rfl
theorem j14_1_1 {β : Type} (call : CallF) (md : Bool) (k : Ex → List AV → Heap → Option β) (x0 x1 x2 x3 x4 x19 x20 x21 x22 : AV) (h : Heap) :
    opsK C0 call md 14 (O14 1) ((O14 1).toList.drop 4) (st 96 [(0, x0), (1, x1), (2, x2), (3, x3), (4, x4), (19, x19), (20, x20), (21, x21), (22, x22)]) h (fun tm h => k .normal (clr (C0.keep 14 1) tm) h) = J14_1_1 call md k x0 x1 x2 x3 x4 x22 h := by
  have e : ((O14 1).toList.drop 4) = ((O14 1).toList.drop 4).take 2 ++ (O14 1).toList.drop 6 := by kernel_rfl
  rw [show opsK C0 call md 14 (O14 1) ((O14 1).toList.drop 4) = opsK C0 call md 14 (O14 1) (((O14 1).toList.drop 4).take 2 ++ (O14 1).toList.drop 6) from congrArg _ e]
  rw [opsK_append, g14_1_1]
  simp only [j14_1_2]
  rfl
def J14_1_0 {β : Type} (call : CallF) (md : Bool) (k : Ex → List AV → Heap → Option β) (x0 x1 x2 x3 x4 : AV) (h : Heap) : Option β :=
    bnd (aLen tab 22 x4) fun v13 =>
    bnd (aBinC tab .gtr 3 v13 (.int .i64 8192) true) fun v14 =>
    J14_1_1 call md k x0 x1 x2 x3 x4 v14 h
theorem g14_1_0 {β : Type} (call : CallF) (md : Bool) (kk : List AV → Heap → Option β) (x0 x1 x2 x3 x4 : AV) (h : Heap) :
    opsK C0 call md 14 (O14 1) ((O14 1).toList.take 4) (st 96 [(0, x0), (1, x1), (2, x2), (3, x3), (4, x4)]) h kk =
    bnd (aLen tab 22 x4) fun v15 =>
    bnd (aBinC tab .gtr 3 v15 (.int .i64 8192) true) fun v16 =>
    kk (st 96 [(0, x0), (1, x1), (2, x2), (3, x3), (4, x4), (19, x4), (20, v15), (21, v16), (22, v16)]) h
  := by kernel_rfl
theorem j14_1_0 {β : Type} (call : CallF) (md : Bool) (k : Ex → List AV → Heap → Option β) (x0 x1 x2 x3 x4 : AV) (h : Heap) :
    opsK C0 call md 14 (O14 1) (O14 1).toList (st 96 [(0, x0), (1, x1), (2, x2), (3, x3), (4, x4)]) h (fun tm h => k .normal (clr (C0.keep 14 1) tm) h) = J14_1_0 call md k x0 x1 x2 x3 x4 h := by
  have e : (O14 1).toList = (O14 1).toList.take 4 ++ (O14 1).toList.drop 4 := by kernel_rfl
  rw [show opsK C0 call md 14 (O14 1) (O14 1).toList = opsK C0 call md 14 (O14 1) ((O14 1).toList.take 4 ++ (O14 1).toList.drop 4) from congrArg _ e]
  rw [opsK_append, g14_1_0]
  simp only [j14_1_1]
  rfl
theorem r14_1 {β : Type} (call : CallF) (md : Bool) (n : Nat) (k : Ex → List AV → Heap → Option β) (x0 x1 x2 x3 x4 : AV) (h : Heap) :
    runK C0 call md 14 n (.region 1 (O14 1) false) k (st 96 [(0, x0), (1, x1), (2, x2), (3, x3), (4, x4)]) h = J14_1_0 call md k x0 x1 x2 x3 x4 h := (runK_region C0 call md 14 n 1 (O14 1) k (st 96 [(0, x0), (1, x1), (2, x2), (3, x3), (4, x4)]) h).trans (j14_1_0 call md k x0 x1 x2 x3 x4 h)
theorem r14_2 {β : Type} (call : CallF) (md : Bool) (n : Nat) (k : Ex → List AV → Heap → Option β) (x0 x1 x2 x3 x4 x33 : AV) (h : Heap) :
    runK C0 call md 14 n (.region 2 (O14 2) false) k (st 96 [(0, x0), (1, x1), (2, x2), (3, x3), (4, x4), (33, x33)]) h =
    k .normal (st 96 [(10, (.int .i64 0)), (11, (.int .i64 1))]) h
  := by kernel_rfl
theorem r14_3 {β : Type} (call : CallF) (md : Bool) (n : Nat) (k : Ex → List AV → Heap → Option β) (x0 x1 x2 x3 x4 x33 : AV) (h : Heap) :
    runK C0 call md 14 n (.region 3 (O14 3) false) k (st 96 [(0, x0), (1, x1), (2, x2), (3, x3), (4, x4), (33, x33)]) h =
    bnd (aLen tab 22 x4) fun v1 =>
    bnd2 (aCall call md (.fn (.func 45) []) [v1] h) fun v2 h3 =>
    k .normal (st 96 [(0, x0), (1, x1), (2, x2), (3, x3), (4, x4), (12, v2)]) h3
  := by kernel_rfl
def J14_4_2 {β : Type} (call : CallF) (md : Bool) (k : Ex → List AV → Heap → Option β) (x0 x1 x3 x4 x12 x40 x48 : AV) (h : Heap) : Option β :=
    bnd (aPick x40 (.bool true) x48) fun v1 =>
    k .normal (st 96 [(0, x0), (1, x1), (3, x3), (4, x4), (12, x12), (49, v1)]) h
theorem j14_4_2 {β : Type} (call : CallF) (md : Bool) (k : Ex → List AV → Heap → Option β) (x0 x1 x2 x3 x4 x12 x37 x38 x39 x40 x41 x42 x43 x44 x45 x46 x47 x48 : AV) (h : Heap) :
    opsK C0 call md 14 (O14 4) ((O14 4).toList.drop 12) (st 96 [(0, x0), (1, x1), (2, x2), (3, x3), (4, x4), (12, x12), (37, x37), (38, x38), (39, x39), (40, x40), (41, x41), (42, x42), (43, x43), (44, x44), (45, x45), (46, x46), (47, x47), (48, x48)]) h (fun tm h => k .normal (clr (C0.keep 14 4) tm) h) = J14_4_2 call md k x0 x1 x3 x4 x12 x40 x48 h := by kernel_rfl
def J14_4_1 {β : Type} (call : CallF) (md : Bool) (k : Ex → List AV → Heap → Option β) (x0 x1 x2 x3 x4 x12 x40 : AV) (h : Heap) : Option β :=
    onG false x40 (
      bnd2 (aCall call md (.fn (.func 46) []) [x0] h) fun v3 h4 =>
      bnd (aMin [x2, v3]) fun v5 =>
      bnd (aBinC tab .sub 3 v5 x1 false) fun v6 =>
      bnd (aBinC tab .gtr 3 x12 v6 false) fun v7 =>
      J14_4_2 call md k x0 x1 x3 x4 x12 x40 v7 h4) (
      J14_4_2 call md k x0 x1 x3 x4 x12 x40 .skip h)
theorem g14_4_1 {β : Type} (call : CallF) (md : Bool) (kk : List AV → Heap → Option β) (x0 x1 x2 x3 x4 x12 x37 x38 x39 x40 : AV) (h : Heap) :
    opsK C0 call md 14 (O14 4) (((O14 4).toList.drop 4).take 8) (st 96 [(0, x0), (1, x1), (2, x2), (3, x3), (4, x4), (12, x12), (37, x37), (38, x38), (39, x39), (40, x40)]) h kk =
    onG false x40 (
      bnd2 (aCall call md (.fn (.func 46) []) [x0] h) fun v8 h9 =>
      bnd (aMin [x2, v8]) fun v10 =>
      bnd (aBinC tab .sub 3 v10 x1 false) fun v11 =>
      bnd (aBinC tab .gtr 3 x12 v11 false) fun v12 =>
      kk (st 96 [(0, x0), (1, x1), (2, x2), (3, x3), (4, x4), (12, x12), (37, x37), (38, x38), (39, x39), (40, x40), (41, x12), (42, x2), (43, x0), (44, v8), (45, v10), (46, x1), (47, v11), (48, v12)]) h9) (
      kk (st 96 [(0, x0), (1, x1), (2, x2), (3, x3), (4, x4), (12, x12), (37, x37), (38, x38), (39, x39), (40, x40), (41, .skip), (42, .skip), (43, .skip), (44, .skip), (45, .skip), (46, .skip), (47, .skip), (48, .skip)]) h)
  := by cases x40 with | bool b => (cases b <;> kernel_rfl) | _ => kernel_rfl
theorem j14_4_1 {β : Type} (call : CallF) (md : Bool) (k : Ex → List AV → Heap → Option β) (x0 x1 x2 x3 x4 x12 x37 x38 x39 x40 : AV) (h : Heap) :
    opsK C0 call md 14 (O14 4) ((O14 4).toList.drop 4) (st 96 [(0, x0), (1, x1), (2, x2), (3, x3), (4, x4), (12, x12), (37, x37), (38, x38), (39, x39), (40, x40)]) h (fun tm h => k .normal (clr (C0.keep 14 4) tm) h) = J14_4_1 call md k x0 x1 x2 x3 x4 x12 x40 h := by
  have e : ((O14 4).toList.drop 4) = ((O14 4).toList.drop 4).take 8 ++ (O14 4).toList.drop 12 := by kernel_rfl
  rw [show opsK C0 call md 14 (O14 4) ((O14 4).toList.drop 4) = opsK C0 call md 14 (O14 4) (((O14 4).toList.drop 4).take 8 ++ (O14 4).toList.drop 12) from congrArg _ e]
  rw [opsK_append, g14_4_1]
  simp only [j14_4_2]
  rfl
def J14_4_0 {β : Type} (call : CallF) (md : Bool) (k : Ex → List AV → Heap → Option β) (x0 x1 x2 x3 x4 x12 : AV) (h : Heap) : Option β :=
    bnd (aBinC tab .lss 3 x2 x1 false) fun v13 =>
    J14_4_1 call md k x0 x1 x2 x3 x4 x12 v13 h
theorem g14_4_0 {β : Type} (call : CallF) (md : Bool) (kk : List AV → Heap → Option β) (x0 x1 x2 x3 x4 x12 : AV) (h : Heap) :
    opsK C0 call md 14 (O14 4) ((O14 4).toList.take 4) (st 96 [(0, x0), (1, x1), (2, x2), (3, x3), (4, x4), (12, x12)]) h kk =
    bnd (aBinC tab .lss 3 x2 x1 false) fun v14 =>
    kk (st 96 [(0, x0), (1, x1), (2, x2), (3, x3), (4, x4), (12, x12), (37, x2), (38, x1), (39, v14), (40, v14)]) h
  := by kernel_rfl
theorem j14_4_0 {β : Type} (call : CallF) (md : Bool) (k : Ex → List AV → Heap → Option β) (x0 x1 x2 x3 x4 x12 : AV) (h : Heap) :
    opsK C0 call md 14 (O14 4) (O14 4).toList (st 96 [(0, x0), (1, x1), (2, x2), (3, x3), (4, x4), (12, x12)]) h (fun tm h => k .normal (clr (C0.keep 14 4) tm) h) = J14_4_0 call md k x0 x1 x2 x3 x4 x12 h := by
  have e : (O14 4).toList = (O14 4).toList.take 4 ++ (O14 4).toList.drop 4 := by kernel_rfl
  rw [show opsK C0 call md 14 (O14 4) (O14 4).toList = opsK C0 call md 14 (O14 4) ((O14 4).toList.take 4 ++ (O14 4).toList.drop 4) from congrArg _ e]
  rw [opsK_append, g14_4_0]
  simp only [j14_4_1]
  rfl
theorem r14_4 {β : Type} (call : CallF) (md : Bool) (n : Nat) (k : Ex → List AV → Heap → Option β) (x0 x1 x2 x3 x4 x12 : AV) (h : Heap) :
    runK C0 call md 14 n (.region 4 (O14 4) false) k (st 96 [(0, x0), (1, x1), (2, x2), (3, x3), (4, x4), (12, x12)]) h = J14_4_0 call md k x0 x1 x2 x3 x4 x12 h := (runK_region C0 call md 14 n 4 (O14 4) k (st 96 [(0, x0), (1, x1), (2, x2), (3, x3), (4, x4), (12, x12)]) h).trans (j14_4_0 call md k x0 x1 x2 x3 x4 x12 h)
theorem r14_5 {β : Type} (call : CallF) (md : Bool) (n : Nat) (k : Ex → List AV → Heap → Option β) (x0 x1 x3 x4 x12 x49 : AV) (h : Heap) :
    runK C0 call md 14 n (.region 5 (O14 5) false) k (st 96 [(0, x0), (1, x1), (3, x3), (4, x4), (12, x12), (49, x49)]) h =
    k .normal (st 96 [(10, (.int .i64 0)), (11, (.int .i64 3))]) h
  := by kernel_rfl
theorem r14_6 {β : Type} (call : CallF) (md : Bool) (n : Nat) (k : Ex → List AV → Heap → Option β) (x0 x1 x3 x4 x12 x49 : AV) (h : Heap) :
    runK C0 call md 14 n (.region 6 (O14 6) false) k (st 96 [(0, x0), (1, x1), (3, x3), (4, x4), (12, x12), (49, x49)]) h =
    k .normal (st 96 [(0, x0), (1, x1), (3, x3), (4, x4), (12, x12), (13, (.int .i64 1))]) h
  := by kernel_rfl
theorem r14_7 {β : Type} (call : CallF) (md : Bool) (n : Nat) (k : Ex → List AV → Heap → Option β) (x0 x1 x3 x4 x12 x13 : AV) (h : Heap) :
    runK C0 call md 14 n (.region 7 (O14 7) false) k (st 96 [(0, x0), (1, x1), (3, x3), (4, x4), (12, x12), (13, x13)]) h =
    bnd (aBinC tab .lss 3 x13 x12 false) fun v1 =>
    k .normal (st 96 [(0, x0), (1, x1), (3, x3), (4, x4), (12, x12), (13, x13), (52, v1)]) h
  := by kernel_rfl
theorem r14_8 {β : Type} (call : CallF) (md : Bool) (n : Nat) (k : Ex → List AV → Heap → Option β) (x0 x1 x3 x4 x12 x13 x15 x72 : AV) (h : Heap) :
    runK C0 call md 14 n (.region 8 (O14 8) false) k (st 96 [(0, x0), (1, x1), (3, x3), (4, x4), (12, x12), (13, x13), (15, x15), (72, x72)]) h =
    bnd (aBinC tab .add 3 x13 (.int .i64 1) true) fun v1 =>
    k .normal (st 96 [(0, x0), (1, x1), (3, x3), (4, x4), (12, x12), (13, v1)]) h
  := by kernel_rfl
theorem r14_9 {β : Type} (call : CallF) (md : Bool) (n : Nat) (k : Ex → List AV → Heap → Option β) (x0 x1 x3 x4 x12 x13 x52 : AV) (h : Heap) :
    runK C0 call md 14 n (.region 9 (O14 9) false) k (st 96 [(0, x0), (1, x1), (3, x3), (4, x4), (12, x12), (13, x13), (52, x52)]) h =
    bnd (aBinC tab .sub 3 x13 (.int .i64 1) true) fun v1 =>
    bnd (aBinC tab .mul 3 v1 (.int .i64 64) true) fun v2 =>
    bnd (aBinC tab .mul 3 x13 (.int .i64 64) true) fun v3 =>
    bnd (aLen tab 22 x4) fun v4 =>
    bnd (aMin [v3, v4]) fun v5 =>
    bnd (aSlice tab 22 x4 (some v2) (some v5) none) fun v6 =>
    k .normal (st 96 [(0, x0), (1, x1), (3, x3), (4, x4), (12, x12), (13, x13), (14, v6)]) h
  := by kernel_rfl
theorem r14_10 {β : Type} (call : CallF) (md : Bool) (n : Nat) (k : Ex → List AV → Heap → Option β) (x0 x1 x3 x4 x12 x13 x14 : AV) (h : Heap) :
    runK C0 call md 14 n (.region 10 (O14 10) false) k (st 96 [(0, x0), (1, x1), (3, x3), (4, x4), (12, x12), (13, x13), (14, x14)]) h =
    bnd (aBinC tab .add 3 x1 x13 false) fun v1 =>
    bnd2 (aCall call md (.fn (.func 17) []) [x0, v1, x14] h) fun v2 h3 =>
    k .normal (st 96 [(0, x0), (1, x1), (3, x3), (4, x4), (12, x12), (13, x13), (15, v2)]) h3
  := by kernel_rfl
theorem r14_11 {β : Type} (call : CallF) (md : Bool) (n : Nat) (k : Ex → List AV → Heap → Option β) (x0 x1 x3 x4 x12 x13 x15 : AV) (h : Heap) :
    runK C0 call md 14 n (.region 11 (O14 11) false) k (st 96 [(0, x0), (1, x1), (3, x3), (4, x4), (12, x12), (13, x13), (15, x15)]) h =
    bnd (aBinC tab .neq 27 x15 (.int .i64 0) true) fun v1 =>
    k .normal (st 96 [(0, x0), (1, x1), (3, x3), (4, x4), (12, x12), (13, x13), (15, x15), (72, v1)]) h
  := by kernel_rfl
theorem r14_12 {β : Type} (call : CallF) (md : Bool) (n : Nat) (k : Ex → List AV → Heap → Option β) (x0 x1 x3 x4 x12 x13 x15 x72 : AV) (h : Heap) :
    runK C0 call md 14 n (.region 12 (O14 12) false) k (st 96 [(0, x0), (1, x1), (3, x3), (4, x4), (12, x12), (13, x13), (15, x15), (72, x72)]) h =
    k .normal (st 96 [(10, (.int .i64 0)), (11, x15)]) h
  := by kernel_rfl
theorem r14_13 {β : Type} (call : CallF) (md : Bool) (n : Nat) (k : Ex → List AV → Heap → Option β) (x0 x1 x3 x4 x12 x13 x52 : AV) (h : Heap) :
    runK C0 call md 14 n (.region 13 (O14 13) false) k (st 96 [(0, x0), (1, x1), (3, x3), (4, x4), (12, x12), (13, x13), (52, x52)]) h =
    bnd2 (aCall call md (.fn (.func 18) []) [x0] h) fun v1 h2 =>
    k .normal (st 96 [(0, x0), (1, x1), (3, x3), (4, x4), (12, x12), (16, v1)]) h2
  := by kernel_rfl
theorem r14_14 {β : Type} (call : CallF) (md : Bool) (n : Nat) (k : Ex → List AV → Heap → Option β) (x0 x1 x3 x4 x12 x16 : AV) (h : Heap) :
    runK C0 call md 14 n (.region 14 (O14 14) false) k (st 96 [(0, x0), (1, x1), (3, x3), (4, x4), (12, x12), (16, x16)]) h =
    bnd (aBinC tab .neq 27 x16 (.int .i64 0) true) fun v1 =>
    k .normal (st 96 [(0, x0), (1, x1), (3, x3), (4, x4), (12, x12), (16, x16), (77, v1)]) h
  := by kernel_rfl
theorem r14_15 {β : Type} (call : CallF) (md : Bool) (n : Nat) (k : Ex → List AV → Heap → Option β) (x0 x1 x3 x4 x12 x16 x77 : AV) (h : Heap) :
    runK C0 call md 14 n (.region 15 (O14 15) false) k (st 96 [(0, x0), (1, x1), (3, x3), (4, x4), (12, x12), (16, x16), (77, x77)]) h =
    k .normal (st 96 [(10, (.int .i64 0)), (11, x16)]) h
  := by kernel_rfl
theorem r14_16 {β : Type} (call : CallF) (md : Bool) (n : Nat) (k : Ex → List AV → Heap → Option β) (x0 x1 x3 x4 x12 x16 x77 : AV) (h : Heap) :
    runK C0 call md 14 n (.region 16 (O14 16) false) k (st 96 [(0, x0), (1, x1), (3, x3), (4, x4), (12, x12), (16, x16), (77, x77)]) h =
    bnd2 (aCall call md (.fn (.func 47) []) [x3, x4] h) fun v1 h2 =>
    bnd2 (aCall call md (.fn (.func 17) []) [x0, x1, v1] h2) fun v3 h4 =>
    k .normal (st 96 [(0, x0), (1, x1), (12, x12), (17, v3)]) h4
  := by kernel_rfl
theorem r14_17 {β : Type} (call : CallF) (md : Bool) (n : Nat) (k : Ex → List AV → Heap → Option β) (x0 x1 x12 x17 : AV) (h : Heap) :
    runK C0 call md 14 n (.region 17 (O14 17) false) k (st 96 [(0, x0), (1, x1), (12, x12), (17, x17)]) h =
    bnd (aBinC tab .neq 27 x17 (.int .i64 0) true) fun v1 =>
    k .normal (st 96 [(0, x0), (1, x1), (12, x12), (17, x17), (86, v1)]) h
  := by kernel_rfl
theorem r14_18 {β : Type} (call : CallF) (md : Bool) (n : Nat) (k : Ex → List AV → Heap → Option β) (x0 x1 x12 x17 x86 : AV) (h : Heap) :
    runK C0 call md 14 n (.region 18 (O14 18) false) k (st 96 [(0, x0), (1, x1), (12, x12), (17, x17), (86, x86)]) h =
    k .normal (st 96 [(10, (.int .i64 0)), (11, x17)]) h
  := by kernel_rfl
theorem r14_19 {β : Type} (call : CallF) (md : Bool) (n : Nat) (k : Ex → List AV → Heap → Option β) (x0 x1 x12 x17 x86 : AV) (h : Heap) :
    runK C0 call md 14 n (.region 19 (O14 19) false) k (st 96 [(0, x0), (1, x1), (12, x12), (17, x17), (86, x86)]) h =
    bnd2 (aCall call md (.fn (.func 18) []) [x0] h) fun v1 h2 =>
    k .normal (st 96 [(1, x1), (12, x12), (18, v1)]) h2
  := by kernel_rfl
theorem r14_20 {β : Type} (call : CallF) (md : Bool) (n : Nat) (k : Ex → List AV → Heap → Option β) (x1 x12 x18 : AV) (h : Heap) :
    runK C0 call md 14 n (.region 20 (O14 20) false) k (st 96 [(1, x1), (12, x12), (18, x18)]) h =
    bnd (aBinC tab .neq 27 x18 (.int .i64 0) true) fun v1 =>
    k .normal (st 96 [(1, x1), (12, x12), (18, x18), (91, v1)]) h
  := by kernel_rfl
theorem r14_21 {β : Type} (call : CallF) (md : Bool) (n : Nat) (k : Ex → List AV → Heap → Option β) (x1 x12 x18 x91 : AV) (h : Heap) :
    runK C0 call md 14 n (.region 21 (O14 21) false) k (st 96 [(1, x1), (12, x12), (18, x18), (91, x91)]) h =
    k .normal (st 96 [(10, (.int .i64 0)), (11, x18)]) h
  := by kernel_rfl
theorem r14_22 {β : Type} (call : CallF) (md : Bool) (n : Nat) (k : Ex → List AV → Heap → Option β) (x1 x12 x18 x91 : AV) (h : Heap) :
    runK C0 call md 14 n (.region 22 (O14 22) false) k (st 96 [(1, x1), (12, x12), (18, x18), (91, x91)]) h =
    bnd (aBinC tab .add 3 x1 x12 false) fun v1 =>
    k .normal (st 96 [(10, v1), (11, (.int .i64 0))]) h
  := by kernel_rfl
end Go.Ax

namespace Go.Ax
open Go Go.Proofs
theorem burn_fuse (d : Dk) : d.burn.fuse ≤ d.fuse := by unfold Dk.burn; simp only; split <;> omega
theorem write_fuse (d : Dk) (a : Int) (b : List UInt8) : (d.write a b).2.fuse ≤ d.fuse := by
  unfold Dk.write
  split
  · exact Int.le_refl _
  · split
    · exact burn_fuse d
    · exact burn_fuse d
theorem write_loose (d : Dk) (a : Int) (b : List UInt8) : (d.write a b).2.loose.length ≤ d.loose.length + 1 := by
  unfold Dk.write
  split
  · simp
  · split
    · simp [Dk.burn]
    · simp [Dk.burn, Dk.add]
theorem write_len (d : Dk) (a : Int) (b : List UInt8) : (d.write a b).2.lasts.length = d.lasts.length := by
  unfold Dk.write
  split
  · rfl
  · split <;> rfl
theorem flush_fuse (d : Dk) : d.flush.2.fuse ≤ d.fuse := by
  unfold Dk.flush
  split
  · exact burn_fuse d
  · exact burn_fuse d
theorem flush_loose (d : Dk) : d.flush.2.loose.length ≤ d.loose.length := by
  unfold Dk.flush
  split
  · exact Nat.le_refl _
  · simp
theorem flush_len (d : Dk) : d.flush.2.lasts.length = d.lasts.length := by
  unfold Dk.flush
  split
  · rfl
  · exact land_length _ _
def chunk (b : List UInt8) (i : Nat) : List UInt8 := (b.drop (64 * (i - 1))).take 64
def layLoop (at' : Int) (b : List UInt8) : Nat → Nat → Dk → Int × Dk
  | 0, _, d => (0, d)
  | m + 1, i, d => if (d.write (at' + i) (chunk b i)).1 = 0 then layLoop at' b m (i + 1) (d.write (at' + i) (chunk b i)).2 else d.write (at' + i) (chunk b i)
theorem layLoop_zero (at' : Int) (b : List UInt8) (i : Nat) (d : Dk) : layLoop at' b 0 i d = (0, d) := rfl
theorem layLoop_go {at' : Int} {b : List UInt8} {m i : Nat} {d : Dk} (h : (d.write (at' + i) (chunk b i)).1 = 0) : layLoop at' b (m + 1) i d = layLoop at' b m (i + 1) (d.write (at' + i) (chunk b i)).2 := if_pos h
theorem layLoop_no {at' : Int} {b : List UInt8} {m i : Nat} {d : Dk} (h : (d.write (at' + i) (chunk b i)).1 ≠ 0) : layLoop at' b (m + 1) i d = d.write (at' + i) (chunk b i) := if_neg h
theorem layLoop_loose (at' : Int) (b : List UInt8) : ∀ m i d, (layLoop at' b m i d).2.loose.length ≤ d.loose.length + m := by
  intro m
  induction m with
  | zero => intro i d; simp [layLoop]
  | succ m ih =>
    intro i d
    have := write_loose d (at' + i) (chunk b i)
    by_cases h : (d.write (at' + i) (chunk b i)).1 = 0
    · rw [layLoop_go h]
      have := ih (i + 1) (d.write (at' + i) (chunk b i)).2
      omega
    · rw [layLoop_no h]; omega
theorem layLoop_fuse (at' : Int) (b : List UInt8) : ∀ m i d, (layLoop at' b m i d).2.fuse ≤ d.fuse := by
  intro m
  induction m with
  | zero => intro i d; simp [layLoop]
  | succ m ih =>
    intro i d
    have := write_fuse d (at' + i) (chunk b i)
    by_cases h : (d.write (at' + i) (chunk b i)).1 = 0
    · rw [layLoop_go h]
      have := ih (i + 1) (d.write (at' + i) (chunk b i)).2
      omega
    · rw [layLoop_no h]; omega
theorem Bs.sub {x : AV} {l : List UInt8} (hx : Bs x l) (lo hi : Nat) (h1 : lo ≤ hi) (h2 : hi ≤ l.length) : ∃ y, aSlice tab 22 x (some (.int .i64 lo)) (some (.int .i64 hi)) none = some y ∧ Bs y ((l.take hi).drop lo) := by
  rcases hx with ⟨rfl, rfl⟩ | ⟨k, rfl⟩
  · obtain rfl : hi = 0 := by simpa using h2
    obtain rfl : lo = 0 := by omega
    exact ⟨.nils, by simp [aSlice, aBounds, aBound], .inl ⟨rfl, by simp⟩⟩
  · refine ⟨.vsl 5 (((l.take hi).drop lo).map U8) (cutTok l.length hi none k), ?_, .inr ⟨_, rfl⟩⟩
    simp [aSlice, aBounds, aBound, h1, h2]
theorem chunk_eq (b : List UInt8) (i : Nat) (hi : 1 ≤ i) : (b.take (min (64 * i) b.length)).drop (64 * (i - 1)) = chunk b i := by
  unfold chunk
  rw [List.drop_take]
  rcases Nat.le_total (64 * i) b.length with h | h
  · rw [Nat.min_eq_left h, show 64 * i - 64 * (i - 1) = 64 by omega]
  · rw [Nat.min_eq_right h, List.take_of_length_le (by simp), List.take_of_length_le (by simp; omega)]
theorem lay_loop {S : Obs} {p r : Nat} {x : AV} {b : List UInt8} (hx : Bs x b) (a nn : Nat) (x3 : AV) (N : Nat) (ha : a + nn ≤ 1024) (hnn : 64 * (nn - 1) < b.length + 64) :
    ∀ (m i n : Nat) (d : Dk) (h : Heap), i + m = nn → 1 ≤ i → m < n → Up S h → Dsk S h p r d → d.loose.length + m < 2 ^ 30 → d.fuse < 2 ^ 63 →
    ∃ h', (∀ K : Ex → List AV → Heap → Option (AV × Heap), loopK (fun next => runK C0 (exFn C0 E0 (N + 3)) false 14 (N + 3) B14_1 (seqE next K)) n (st 96 [(0, dp p), (1, .int .i64 a), (3, x3), (4, x), (12, .int .i64 nn), (13, .int .i64 i)]) h =
      if (layLoop a b m i d).1 = 0 then K (.exit 0) (st 96 [(0, dp p), (1, .int .i64 a), (3, x3), (4, x), (12, .int .i64 nn), (13, .int .i64 nn), (52, .bool false)]) h'
      else K .ret (st 96 [(10, .int .i64 0), (11, .int .i64 (layLoop a b m i d).1)]) h') ∧
      Dsk S h' p r (layLoop a b m i d).2 ∧ Keep S h h' := by
  intro m
  induction m with
  | zero =>
    intro i n d h hi h1 hn up D hl hf
    obtain ⟨n, rfl⟩ : ∃ j, n = j + 1 := ⟨n - 1, by omega⟩
    obtain rfl : i = nn := by omega
    rw [layLoop_zero]
    refine ⟨h, fun K => ?_, D, Keep.refl _ _⟩
    rw [if_pos rfl, loopK_succ]
    generalize loopK (_ : (List AV → Heap → Option (AV × Heap)) → List AV → Heap → Option (AV × Heap)) n = Lp
    have e : decide (((i : Nat) : Int) < (i : Nat)) = false := decide_eq_false (by omega)
    simp -implicitDefEqProofs only [B14_1, ↓runK_seq, runK_seq, ↓runK_cond, runK_cond, ↓runK_block, runK_block, ↓runK_loop, runK_loop, ↓runK_skip, runK_skip, ↓runK_ret, runK_ret, ↓runK_exit, runK_exit, ↓seqE_n, seqE_n, ↓seqE_e, seqE_e, ↓seqE_r, seqE_r, ↓blkE_n, blkE_n, ↓blkE_e, blkE_e, ↓blkE_r, blkE_r, ↓retK_n, retK_n, ↓retK_r, retK_r, ↓aCall_fn, aCall_fn, ↓bnd_s, bnd_s, ↓bnd2_s, bnd2_s, ↓onB_t, onB_t, ↓onB_f, onB_f, ↓onG_tt, onG_tt, ↓onG_tf, onG_tf, ↓onG_ft, onG_ft, ↓onG_ff, onG_ff, ↓onG_s, onG_s, ↓onT_t, onT_t, ↓aPick_t, aPick_t, ↓aPick_f, aPick_f, decide_true, decide_false, st_tmp, results1, results2, List.lookup_cons, List.lookup_nil, Nat.reduceBEq, Bool.false_eq_true, ↓reduceIte, BEq.rfl, Nat.reduceLT, Option.getD_some, Option.getD_none, ↓r14_0, r14_0, ↓r14_1, r14_1, J14_1_0, J14_1_1, J14_1_2, J14_1_3, J14_1_4, J14_1_5, J14_1_6, ↓r14_2, r14_2, ↓r14_3, r14_3, ↓r14_4, r14_4, J14_4_0, J14_4_1, J14_4_2, ↓r14_5, r14_5, ↓r14_6, r14_6, ↓r14_7, r14_7, ↓r14_8, r14_8, ↓r14_9, r14_9, ↓r14_10, r14_10, ↓r14_11, r14_11, ↓r14_12, r14_12, ↓r14_13, r14_13, ↓r14_14, r14_14, ↓r14_15, r14_15, ↓r14_16, r14_16, ↓r14_17, r14_17, ↓r14_18, r14_18, ↓r14_19, r14_19, ↓r14_20, r14_20, ↓r14_21, r14_21, ↓r14_22, r14_22, bin_lss, e]
  | succ m ih =>
    intro i n d h hi h1 hn up D hl hf
    obtain ⟨n, rfl⟩ : ∃ j, n = j + 1 := ⟨n - 1, by omega⟩
    have e : decide (((i : Nat) : Int) < (nn : Nat)) = true := decide_eq_true (by omega)
    have w1 : IntKind.i64.wrap ((i : Int) - 1) = ((i - 1 : Nat) : Int) := by rw [wrap_i64] <;> omega
    have w2 : IntKind.i64.wrap (((i - 1 : Nat) : Int) * 64) = ((64 * (i - 1) : Nat) : Int) := by rw [wrap_i64] <;> omega
    have w3 : IntKind.i64.wrap ((i : Int) * 64) = ((64 * i : Nat) : Int) := by rw [wrap_i64] <;> omega
    have w4 : IntKind.i64.wrap ((a : Int) + (i : Int)) = (a : Int) + i := by rw [wrap_i64] <;> omega
    have w5 : IntKind.i64.wrap ((i : Int) + 1) = ((i + 1 : Nat) : Int) := by rw [wrap_i64] <;> omega
    have mn : (if ((b.length : Nat) : Int) < ((64 * i : Nat) : Int) then ((b.length : Nat) : Int) else ((64 * i : Nat) : Int)) = ((min (64 * i) b.length : Nat) : Int) := by split <;> omega
    obtain ⟨y, sy, by'⟩ := hx.sub (64 * (i - 1)) (min (64 * i) b.length) (by omega) (by omega)
    rw [chunk_eq b i h1] at by'
    obtain ⟨h2, q1, D2, k2⟩ := write_ok D up ((a : Int) + i) (U := fun _ => False) (.inl by') (fun _ _ h => h.elim) (by omega) hf N
    have hwl := write_loose d ((a : Int) + i) (chunk b i)
    have hwf := write_fuse d ((a : Int) + i) (chunk b i)
    by_cases hw : (d.write ((a : Int) + i) (chunk b i)).1 = 0
    · obtain ⟨h3, g1, g2, g3⟩ := ih (i + 1) n _ h2 (by omega) (by omega) (by omega) (up.keep k2) D2 (by omega) (by omega)
      rw [layLoop_go hw]
      refine ⟨h3, fun K => ?_, g2, k2.trans g3⟩
      rw [loopK_succ, ← g1 K]
      generalize loopK (_ : (List AV → Heap → Option (AV × Heap)) → List AV → Heap → Option (AV × Heap)) n = Lp
      rw [hw] at q1
      have c0 : decide ((0 : Int) ≠ 0) = false := by decide
      simp -implicitDefEqProofs only [B14_1, ↓runK_seq, runK_seq, ↓runK_cond, runK_cond, ↓runK_block, runK_block, ↓runK_loop, runK_loop, ↓runK_skip, runK_skip, ↓runK_ret, runK_ret, ↓runK_exit, runK_exit, ↓seqE_n, seqE_n, ↓seqE_e, seqE_e, ↓seqE_r, seqE_r, ↓blkE_n, blkE_n, ↓blkE_e, blkE_e, ↓blkE_r, blkE_r, ↓retK_n, retK_n, ↓retK_r, retK_r, ↓aCall_fn, aCall_fn, ↓bnd_s, bnd_s, ↓bnd2_s, bnd2_s, ↓onB_t, onB_t, ↓onB_f, onB_f, ↓onG_tt, onG_tt, ↓onG_tf, onG_tf, ↓onG_ft, onG_ft, ↓onG_ff, onG_ff, ↓onG_s, onG_s, ↓onT_t, onT_t, ↓aPick_t, aPick_t, ↓aPick_f, aPick_f, decide_true, decide_false, st_tmp, results1, results2, List.lookup_cons, List.lookup_nil, Nat.reduceBEq, Bool.false_eq_true, ↓reduceIte, BEq.rfl, Nat.reduceLT, Option.getD_some, Option.getD_none, ↓r14_0, r14_0, ↓r14_1, r14_1, J14_1_0, J14_1_1, J14_1_2, J14_1_3, J14_1_4, J14_1_5, J14_1_6, ↓r14_2, r14_2, ↓r14_3, r14_3, ↓r14_4, r14_4, J14_4_0, J14_4_1, J14_4_2, ↓r14_5, r14_5, ↓r14_6, r14_6, ↓r14_7, r14_7, ↓r14_8, r14_8, ↓r14_9, r14_9, ↓r14_10, r14_10, ↓r14_11, r14_11, ↓r14_12, r14_12, ↓r14_13, r14_13, ↓r14_14, r14_14, ↓r14_15, r14_15, ↓r14_16, r14_16, ↓r14_17, r14_17, ↓r14_18, r14_18, ↓r14_19, r14_19, ↓r14_20, r14_20, ↓r14_21, r14_21, ↓r14_22, r14_22, bin_lss, e, bin_sub, w1, bin_mul, w2, w3, hx.len, min2_i64, mn, sy, bin_add, w4, q1, neq27, c0, w5]
    · rw [layLoop_no hw]
      refine ⟨h2, fun K => ?_, D2, k2⟩
      rw [if_neg hw, loopK_succ]
      generalize loopK (_ : (List AV → Heap → Option (AV × Heap)) → List AV → Heap → Option (AV × Heap)) n = Lp
      have c0 : decide ((d.write ((a : Int) + i) (chunk b i)).1 ≠ 0) = true := decide_eq_true hw
      simp -implicitDefEqProofs only [B14_1, ↓runK_seq, runK_seq, ↓runK_cond, runK_cond, ↓runK_block, runK_block, ↓runK_loop, runK_loop, ↓runK_skip, runK_skip, ↓runK_ret, runK_ret, ↓runK_exit, runK_exit, ↓seqE_n, seqE_n, ↓seqE_e, seqE_e, ↓seqE_r, seqE_r, ↓blkE_n, blkE_n, ↓blkE_e, blkE_e, ↓blkE_r, blkE_r, ↓retK_n, retK_n, ↓retK_r, retK_r, ↓aCall_fn, aCall_fn, ↓bnd_s, bnd_s, ↓bnd2_s, bnd2_s, ↓onB_t, onB_t, ↓onB_f, onB_f, ↓onG_tt, onG_tt, ↓onG_tf, onG_tf, ↓onG_ft, onG_ft, ↓onG_ff, onG_ff, ↓onG_s, onG_s, ↓onT_t, onT_t, ↓aPick_t, aPick_t, ↓aPick_f, aPick_f, decide_true, decide_false, st_tmp, results1, results2, List.lookup_cons, List.lookup_nil, Nat.reduceBEq, Bool.false_eq_true, ↓reduceIte, BEq.rfl, Nat.reduceLT, Option.getD_some, Option.getD_none, ↓r14_0, r14_0, ↓r14_1, r14_1, J14_1_0, J14_1_1, J14_1_2, J14_1_3, J14_1_4, J14_1_5, J14_1_6, ↓r14_2, r14_2, ↓r14_3, r14_3, ↓r14_4, r14_4, J14_4_0, J14_4_1, J14_4_2, ↓r14_5, r14_5, ↓r14_6, r14_6, ↓r14_7, r14_7, ↓r14_8, r14_8, ↓r14_9, r14_9, ↓r14_10, r14_10, ↓r14_11, r14_11, ↓r14_12, r14_12, ↓r14_13, r14_13, ↓r14_14, r14_14, ↓r14_15, r14_15, ↓r14_16, r14_16, ↓r14_17, r14_17, ↓r14_18, r14_18, ↓r14_19, r14_19, ↓r14_20, r14_20, ↓r14_21, r14_21, ↓r14_22, r14_22, bin_lss, e, bin_sub, w1, bin_mul, w2, w3, hx.len, min2_i64, mn, sy, bin_add, w4, q1, neq27, c0]
def Dk.lay (d : Dk) (at' e gen : Int) (b : List UInt8) : (Int × Int) × Dk :=
  if 8192 < b.length ∨ gen < 0 ∨ 2147483647 < gen ∨ at' < 0 then ((0, 1), d)
  else if e < at' ∨ min e d.lasts.length - at' < sizeOf b.length then ((0, 3), d)
  else
    let l := layLoop at' b ((sizeOf b.length).toNat - 1) 1 d
    if l.1 ≠ 0 then ((0, l.1), l.2)
    else if l.2.flush.1 ≠ 0 then ((0, l.2.flush.1), l.2.flush.2)
    else
      let w := l.2.flush.2.write at' (head16 (BitVec.ofInt 32 gen) b)
      if w.1 ≠ 0 then ((0, w.1), w.2)
      else if w.2.flush.1 ≠ 0 then ((0, w.2.flush.1), w.2.flush.2)
      else ((at' + sizeOf b.length, 0), w.2.flush.2)
theorem lay_arg {d : Dk} {at' e gen : Int} {b : List UInt8} (h : 8192 < b.length ∨ gen < 0 ∨ 2147483647 < gen ∨ at' < 0) : d.lay at' e gen b = ((0, 1), d) := if_pos h
theorem lay_full {d : Dk} {at' e gen : Int} {b : List UInt8} (h : ¬ (8192 < b.length ∨ gen < 0 ∨ 2147483647 < gen ∨ at' < 0)) (h2 : e < at' ∨ min e d.lasts.length - at' < sizeOf b.length) : d.lay at' e gen b = ((0, 3), d) := by
  unfold Dk.lay; rw [if_neg h, if_pos h2]
theorem lay_go {d : Dk} {at' e gen : Int} {b : List UInt8} (h : ¬ (8192 < b.length ∨ gen < 0 ∨ 2147483647 < gen ∨ at' < 0)) (h2 : ¬ (e < at' ∨ min e d.lasts.length - at' < sizeOf b.length)) {l : Int × Dk} (hl : layLoop at' b ((sizeOf b.length).toNat - 1) 1 d = l) :
    d.lay at' e gen b = if l.1 ≠ 0 then ((0, l.1), l.2)
    else if l.2.flush.1 ≠ 0 then ((0, l.2.flush.1), l.2.flush.2)
    else if (l.2.flush.2.write at' (head16 (BitVec.ofInt 32 gen) b)).1 ≠ 0 then ((0, (l.2.flush.2.write at' (head16 (BitVec.ofInt 32 gen) b)).1), (l.2.flush.2.write at' (head16 (BitVec.ofInt 32 gen) b)).2)
    else if (l.2.flush.2.write at' (head16 (BitVec.ofInt 32 gen) b)).2.flush.1 ≠ 0 then ((0, (l.2.flush.2.write at' (head16 (BitVec.ofInt 32 gen) b)).2.flush.1), (l.2.flush.2.write at' (head16 (BitVec.ofInt 32 gen) b)).2.flush.2)
    else ((at' + sizeOf b.length, 0), (l.2.flush.2.write at' (head16 (BitVec.ofInt 32 gen) b)).2.flush.2) := by
  subst hl; unfold Dk.lay; rw [if_neg h, if_neg h2]
theorem ln0 (p : Nat) (at' e gen : Int) (x : AV) : ([dp p, .int .i64 at', .int .i64 e, .int .i64 gen, x] ++ List.replicate (96 - [dp p, .int .i64 at', .int .i64 e, .int .i64 gen, x].length) AV.undef) =
    st 96 [(0, dp p), (1, .int .i64 at'), (2, .int .i64 e), (3, .int .i64 gen), (4, x)] := rfl
theorem lay_ok {S : Obs} {p r : Nat} {h : Heap} {d : Dk} (D : Dsk S h p r d) (up : Up S h) (hl : d.loose.length < 2 ^ 29) (hf : d.fuse < 2 ^ 63) (at' e gen : Int) (hat : at' < 2 ^ 63) {x : AV} {b : List UInt8} (hx : Bs x b)
    (hbl : b.length < 2 ^ 61) (k : Nat) (hk : d.loose.length + 9000 < k) :
    ∃ h', exFn C0 E0 (k + 1) false 14 [dp p, .int .i64 at', .int .i64 e, .int .i64 gen, x] h = some (.tuple [.int .i64 (d.lay at' e gen b).1.1, .int .i64 (d.lay at' e gen b).1.2], h') ∧ Dsk S h' p r (d.lay at' e gen b).2 ∧ Keep S h h' := by
  obtain ⟨k, rfl⟩ : ∃ j, k = j + 9 := ⟨k - 9, by omega⟩
  have hfew := D.few
  by_cases q1 : 8192 < b.length
  · have e1 : decide ((8192 : Int) < (b.length : Nat)) = true := decide_eq_true (by omega)
    rw [lay_arg (.inl q1)]
    refine ⟨h, exFn_of e14 ?_, D, Keep.refl _ _⟩
    rw [fnK, ln0, s14]
    simp -implicitDefEqProofs only [↓runK_seq, runK_seq, ↓runK_cond, runK_cond, ↓runK_block, runK_block, ↓runK_loop, runK_loop, ↓runK_skip, runK_skip, ↓runK_ret, runK_ret, ↓runK_exit, runK_exit, ↓seqE_n, seqE_n, ↓seqE_e, seqE_e, ↓seqE_r, seqE_r, ↓blkE_n, blkE_n, ↓blkE_e, blkE_e, ↓blkE_r, blkE_r, ↓retK_n, retK_n, ↓retK_r, retK_r, ↓aCall_fn, aCall_fn, ↓bnd_s, bnd_s, ↓bnd2_s, bnd2_s, ↓onB_t, onB_t, ↓onB_f, onB_f, ↓onG_tt, onG_tt, ↓onG_tf, onG_tf, ↓onG_ft, onG_ft, ↓onG_ff, onG_ff, ↓onG_s, onG_s, ↓onT_t, onT_t, ↓aPick_t, aPick_t, ↓aPick_f, aPick_f, decide_true, decide_false, st_tmp, results1, results2, List.lookup_cons, List.lookup_nil, Nat.reduceBEq, Bool.false_eq_true, ↓reduceIte, BEq.rfl, Nat.reduceLT, Option.getD_some, Option.getD_none, ↓r14_0, r14_0, ↓r14_1, r14_1, J14_1_0, J14_1_1, J14_1_2, J14_1_3, J14_1_4, J14_1_5, J14_1_6, ↓r14_2, r14_2, ↓r14_3, r14_3, ↓r14_4, r14_4, J14_4_0, J14_4_1, J14_4_2, ↓r14_5, r14_5, ↓r14_6, r14_6, ↓r14_7, r14_7, ↓r14_8, r14_8, ↓r14_9, r14_9, ↓r14_10, r14_10, ↓r14_11, r14_11, ↓r14_12, r14_12, ↓r14_13, r14_13, ↓r14_14, r14_14, ↓r14_15, r14_15, ↓r14_16, r14_16, ↓r14_17, r14_17, ↓r14_18, r14_18, ↓r14_19, r14_19, ↓r14_20, r14_20, ↓r14_21, r14_21, ↓r14_22, r14_22, hx.len, bin_gtr, e1]
  have e1 : decide ((8192 : Int) < (b.length : Nat)) = false := decide_eq_false (by omega)
  by_cases q2 : gen < 0
  · have e2 : decide (gen < 0) = true := decide_eq_true q2
    rw [lay_arg (.inr (.inl q2))]
    refine ⟨h, exFn_of e14 ?_, D, Keep.refl _ _⟩
    rw [fnK, ln0, s14]
    simp -implicitDefEqProofs only [↓runK_seq, runK_seq, ↓runK_cond, runK_cond, ↓runK_block, runK_block, ↓runK_loop, runK_loop, ↓runK_skip, runK_skip, ↓runK_ret, runK_ret, ↓runK_exit, runK_exit, ↓seqE_n, seqE_n, ↓seqE_e, seqE_e, ↓seqE_r, seqE_r, ↓blkE_n, blkE_n, ↓blkE_e, blkE_e, ↓blkE_r, blkE_r, ↓retK_n, retK_n, ↓retK_r, retK_r, ↓aCall_fn, aCall_fn, ↓bnd_s, bnd_s, ↓bnd2_s, bnd2_s, ↓onB_t, onB_t, ↓onB_f, onB_f, ↓onG_tt, onG_tt, ↓onG_tf, onG_tf, ↓onG_ft, onG_ft, ↓onG_ff, onG_ff, ↓onG_s, onG_s, ↓onT_t, onT_t, ↓aPick_t, aPick_t, ↓aPick_f, aPick_f, decide_true, decide_false, st_tmp, results1, results2, List.lookup_cons, List.lookup_nil, Nat.reduceBEq, Bool.false_eq_true, ↓reduceIte, BEq.rfl, Nat.reduceLT, Option.getD_some, Option.getD_none, ↓r14_0, r14_0, ↓r14_1, r14_1, J14_1_0, J14_1_1, J14_1_2, J14_1_3, J14_1_4, J14_1_5, J14_1_6, ↓r14_2, r14_2, ↓r14_3, r14_3, ↓r14_4, r14_4, J14_4_0, J14_4_1, J14_4_2, ↓r14_5, r14_5, ↓r14_6, r14_6, ↓r14_7, r14_7, ↓r14_8, r14_8, ↓r14_9, r14_9, ↓r14_10, r14_10, ↓r14_11, r14_11, ↓r14_12, r14_12, ↓r14_13, r14_13, ↓r14_14, r14_14, ↓r14_15, r14_15, ↓r14_16, r14_16, ↓r14_17, r14_17, ↓r14_18, r14_18, ↓r14_19, r14_19, ↓r14_20, r14_20, ↓r14_21, r14_21, ↓r14_22, r14_22, hx.len, bin_gtr, e1, bin_lss, e2]
  have e2 : decide (gen < 0) = false := decide_eq_false q2
  by_cases q3 : 2147483647 < gen
  · have e3 : decide (2147483647 < gen) = true := decide_eq_true q3
    rw [lay_arg (.inr (.inr (.inl q3)))]
    refine ⟨h, exFn_of e14 ?_, D, Keep.refl _ _⟩
    rw [fnK, ln0, s14]
    simp -implicitDefEqProofs only [↓runK_seq, runK_seq, ↓runK_cond, runK_cond, ↓runK_block, runK_block, ↓runK_loop, runK_loop, ↓runK_skip, runK_skip, ↓runK_ret, runK_ret, ↓runK_exit, runK_exit, ↓seqE_n, seqE_n, ↓seqE_e, seqE_e, ↓seqE_r, seqE_r, ↓blkE_n, blkE_n, ↓blkE_e, blkE_e, ↓blkE_r, blkE_r, ↓retK_n, retK_n, ↓retK_r, retK_r, ↓aCall_fn, aCall_fn, ↓bnd_s, bnd_s, ↓bnd2_s, bnd2_s, ↓onB_t, onB_t, ↓onB_f, onB_f, ↓onG_tt, onG_tt, ↓onG_tf, onG_tf, ↓onG_ft, onG_ft, ↓onG_ff, onG_ff, ↓onG_s, onG_s, ↓onT_t, onT_t, ↓aPick_t, aPick_t, ↓aPick_f, aPick_f, decide_true, decide_false, st_tmp, results1, results2, List.lookup_cons, List.lookup_nil, Nat.reduceBEq, Bool.false_eq_true, ↓reduceIte, BEq.rfl, Nat.reduceLT, Option.getD_some, Option.getD_none, ↓r14_0, r14_0, ↓r14_1, r14_1, J14_1_0, J14_1_1, J14_1_2, J14_1_3, J14_1_4, J14_1_5, J14_1_6, ↓r14_2, r14_2, ↓r14_3, r14_3, ↓r14_4, r14_4, J14_4_0, J14_4_1, J14_4_2, ↓r14_5, r14_5, ↓r14_6, r14_6, ↓r14_7, r14_7, ↓r14_8, r14_8, ↓r14_9, r14_9, ↓r14_10, r14_10, ↓r14_11, r14_11, ↓r14_12, r14_12, ↓r14_13, r14_13, ↓r14_14, r14_14, ↓r14_15, r14_15, ↓r14_16, r14_16, ↓r14_17, r14_17, ↓r14_18, r14_18, ↓r14_19, r14_19, ↓r14_20, r14_20, ↓r14_21, r14_21, ↓r14_22, r14_22, hx.len, bin_gtr, e1, bin_lss, e2, e3]
  have e3 : decide (2147483647 < gen) = false := decide_eq_false q3
  by_cases q4 : at' < 0
  · have e4 : decide (at' < 0) = true := decide_eq_true q4
    rw [lay_arg (.inr (.inr (.inr q4)))]
    refine ⟨h, exFn_of e14 ?_, D, Keep.refl _ _⟩
    rw [fnK, ln0, s14]
    simp -implicitDefEqProofs only [↓runK_seq, runK_seq, ↓runK_cond, runK_cond, ↓runK_block, runK_block, ↓runK_loop, runK_loop, ↓runK_skip, runK_skip, ↓runK_ret, runK_ret, ↓runK_exit, runK_exit, ↓seqE_n, seqE_n, ↓seqE_e, seqE_e, ↓seqE_r, seqE_r, ↓blkE_n, blkE_n, ↓blkE_e, blkE_e, ↓blkE_r, blkE_r, ↓retK_n, retK_n, ↓retK_r, retK_r, ↓aCall_fn, aCall_fn, ↓bnd_s, bnd_s, ↓bnd2_s, bnd2_s, ↓onB_t, onB_t, ↓onB_f, onB_f, ↓onG_tt, onG_tt, ↓onG_tf, onG_tf, ↓onG_ft, onG_ft, ↓onG_ff, onG_ff, ↓onG_s, onG_s, ↓onT_t, onT_t, ↓aPick_t, aPick_t, ↓aPick_f, aPick_f, decide_true, decide_false, st_tmp, results1, results2, List.lookup_cons, List.lookup_nil, Nat.reduceBEq, Bool.false_eq_true, ↓reduceIte, BEq.rfl, Nat.reduceLT, Option.getD_some, Option.getD_none, ↓r14_0, r14_0, ↓r14_1, r14_1, J14_1_0, J14_1_1, J14_1_2, J14_1_3, J14_1_4, J14_1_5, J14_1_6, ↓r14_2, r14_2, ↓r14_3, r14_3, ↓r14_4, r14_4, J14_4_0, J14_4_1, J14_4_2, ↓r14_5, r14_5, ↓r14_6, r14_6, ↓r14_7, r14_7, ↓r14_8, r14_8, ↓r14_9, r14_9, ↓r14_10, r14_10, ↓r14_11, r14_11, ↓r14_12, r14_12, ↓r14_13, r14_13, ↓r14_14, r14_14, ↓r14_15, r14_15, ↓r14_16, r14_16, ↓r14_17, r14_17, ↓r14_18, r14_18, ↓r14_19, r14_19, ↓r14_20, r14_20, ↓r14_21, r14_21, ↓r14_22, r14_22, hx.len, bin_gtr, e1, bin_lss, e2, e3, e4]
  have e4 : decide (at' < 0) = false := decide_eq_false q4
  have ha : ¬ (8192 < b.length ∨ gen < 0 ∨ 2147483647 < gen ∨ at' < 0) := fun h => h.elim q1 fun h => h.elim q2 fun h => h.elim q3 q4
  have sk := size_ok (b.length : Int) (by omega) false h (k + 8)
  by_cases q5 : e < at'
  · have e5 : decide (e < at') = true := decide_eq_true q5
    rw [lay_full ha (.inl q5)]
    refine ⟨h, exFn_of e14 ?_, D, Keep.refl _ _⟩
    rw [fnK, ln0, s14]
    simp -implicitDefEqProofs only [↓runK_seq, runK_seq, ↓runK_cond, runK_cond, ↓runK_block, runK_block, ↓runK_loop, runK_loop, ↓runK_skip, runK_skip, ↓runK_ret, runK_ret, ↓runK_exit, runK_exit, ↓seqE_n, seqE_n, ↓seqE_e, seqE_e, ↓seqE_r, seqE_r, ↓blkE_n, blkE_n, ↓blkE_e, blkE_e, ↓blkE_r, blkE_r, ↓retK_n, retK_n, ↓retK_r, retK_r, ↓aCall_fn, aCall_fn, ↓bnd_s, bnd_s, ↓bnd2_s, bnd2_s, ↓onB_t, onB_t, ↓onB_f, onB_f, ↓onG_tt, onG_tt, ↓onG_tf, onG_tf, ↓onG_ft, onG_ft, ↓onG_ff, onG_ff, ↓onG_s, onG_s, ↓onT_t, onT_t, ↓aPick_t, aPick_t, ↓aPick_f, aPick_f, decide_true, decide_false, st_tmp, results1, results2, List.lookup_cons, List.lookup_nil, Nat.reduceBEq, Bool.false_eq_true, ↓reduceIte, BEq.rfl, Nat.reduceLT, Option.getD_some, Option.getD_none, ↓r14_0, r14_0, ↓r14_1, r14_1, J14_1_0, J14_1_1, J14_1_2, J14_1_3, J14_1_4, J14_1_5, J14_1_6, ↓r14_2, r14_2, ↓r14_3, r14_3, ↓r14_4, r14_4, J14_4_0, J14_4_1, J14_4_2, ↓r14_5, r14_5, ↓r14_6, r14_6, ↓r14_7, r14_7, ↓r14_8, r14_8, ↓r14_9, r14_9, ↓r14_10, r14_10, ↓r14_11, r14_11, ↓r14_12, r14_12, ↓r14_13, r14_13, ↓r14_14, r14_14, ↓r14_15, r14_15, ↓r14_16, r14_16, ↓r14_17, r14_17, ↓r14_18, r14_18, ↓r14_19, r14_19, ↓r14_20, r14_20, ↓r14_21, r14_21, ↓r14_22, r14_22, hx.len, bin_gtr, e1, bin_lss, e2, e3, e4, sk, e5]
  have e5 : decide (e < at') = false := decide_eq_false q5
  have mn : (if ((d.lasts.length : Nat) : Int) < e then ((d.lasts.length : Nat) : Int) else e) = min e d.lasts.length := by split <;> omega
  have ws : IntKind.i64.wrap (min e d.lasts.length - at') = min e d.lasts.length - at' := by rw [wrap_i64] <;> omega
  have lk := len_ok D false (k + 8)
  by_cases q6 : min e d.lasts.length - at' < sizeOf b.length
  · have e6 : decide (min e d.lasts.length - at' < sizeOf b.length) = true := decide_eq_true q6
    rw [lay_full ha (.inr q6)]
    refine ⟨h, exFn_of e14 ?_, D, Keep.refl _ _⟩
    rw [fnK, ln0, s14]
    simp -implicitDefEqProofs only [↓runK_seq, runK_seq, ↓runK_cond, runK_cond, ↓runK_block, runK_block, ↓runK_loop, runK_loop, ↓runK_skip, runK_skip, ↓runK_ret, runK_ret, ↓runK_exit, runK_exit, ↓seqE_n, seqE_n, ↓seqE_e, seqE_e, ↓seqE_r, seqE_r, ↓blkE_n, blkE_n, ↓blkE_e, blkE_e, ↓blkE_r, blkE_r, ↓retK_n, retK_n, ↓retK_r, retK_r, ↓aCall_fn, aCall_fn, ↓bnd_s, bnd_s, ↓bnd2_s, bnd2_s, ↓onB_t, onB_t, ↓onB_f, onB_f, ↓onG_tt, onG_tt, ↓onG_tf, onG_tf, ↓onG_ft, onG_ft, ↓onG_ff, onG_ff, ↓onG_s, onG_s, ↓onT_t, onT_t, ↓aPick_t, aPick_t, ↓aPick_f, aPick_f, decide_true, decide_false, st_tmp, results1, results2, List.lookup_cons, List.lookup_nil, Nat.reduceBEq, Bool.false_eq_true, ↓reduceIte, BEq.rfl, Nat.reduceLT, Option.getD_some, Option.getD_none, ↓r14_0, r14_0, ↓r14_1, r14_1, J14_1_0, J14_1_1, J14_1_2, J14_1_3, J14_1_4, J14_1_5, J14_1_6, ↓r14_2, r14_2, ↓r14_3, r14_3, ↓r14_4, r14_4, J14_4_0, J14_4_1, J14_4_2, ↓r14_5, r14_5, ↓r14_6, r14_6, ↓r14_7, r14_7, ↓r14_8, r14_8, ↓r14_9, r14_9, ↓r14_10, r14_10, ↓r14_11, r14_11, ↓r14_12, r14_12, ↓r14_13, r14_13, ↓r14_14, r14_14, ↓r14_15, r14_15, ↓r14_16, r14_16, ↓r14_17, r14_17, ↓r14_18, r14_18, ↓r14_19, r14_19, ↓r14_20, r14_20, ↓r14_21, r14_21, ↓r14_22, r14_22, hx.len, bin_gtr, e1, bin_lss, e2, e3, e4, sk, e5, lk, min2_i64, mn, bin_sub, ws, e6]
  have e6 : decide (min e d.lasts.length - at' < sizeOf b.length) = false := decide_eq_false q6
  obtain ⟨nn, hnn⟩ : ∃ nn : Nat, sizeOf b.length = nn := ⟨(sizeOf b.length).toNat, by unfold sizeOf; omega⟩
  have hnn1 : (nn : Int) = 1 + ((b.length : Int) + 63) / 64 := by rw [← hnn]; unfold sizeOf; omega
  obtain ⟨a, rfl⟩ : ∃ a : Nat, at' = a := ⟨at'.toNat, by omega⟩
  have hl1 := layLoop_loose (a : Int) b (nn - 1) 1 d
  have hl2 := layLoop_fuse (a : Int) b (nn - 1) 1 d
  obtain ⟨h1, f1, f2, f3⟩ := lay_loop (S := S) (p := p) (r := r) hx a nn (.int .i64 gen) (k + 6) (by omega) (by omega) (nn - 1) 1 (k + 9) d h (by omega) (by omega) (by omega) up D (by omega) hf
  rw [show ((1 : Nat) : Int) = 1 from rfl] at f1
  rw [lay_go ha (fun h => h.elim q5 q6) (l := layLoop (a : Int) b (nn - 1) 1 d) (by rw [hnn]; rfl)]
  rw [hnn] at sk e6
  generalize hL : layLoop (a : Int) b (nn - 1) 1 d = L at *
  obtain ⟨le, ld⟩ := L
  simp only at f1 f2 hl1 hl2 ⊢
  have pre : ∀ r : AV × Heap, (if le = 0 then seqE (runK C0 (exFn C0 E0 (k + 9)) false 14 (k + 9) (.seq (.seq (.region 13 (O14 13) false) (.seq (.region 14 (O14 14) false) (.cond (.tmp 77) (.seq (.region 15 (O14 15) false) .ret) .skip))) (.seq (.seq (.region 16 (O14 16) false) (.seq (.region 17 (O14 17) false) (.cond (.tmp 86) (.seq (.region 18 (O14 18) false) .ret) .skip))) (.seq (.seq (.region 19 (O14 19) false) (.seq (.region 20 (O14 20) false) (.cond (.tmp 91) (.seq (.region 21 (O14 21) false) .ret) .skip))) (.seq (.region 22 (O14 22) false) .ret)))) (retK [10, 11])) (retK [10, 11]) .normal (st 96 [(0, dp p), (1, .int .i64 a), (3, .int .i64 gen), (4, x), (12, .int .i64 nn), (13, .int .i64 nn), (52, .bool false)]) h1
      else some (.tuple [.int .i64 0, .int .i64 le], h1)) = some r → exFn C0 E0 (k + 9 + 1) false 14 [dp p, .int .i64 a, .int .i64 e, .int .i64 gen, x] h = some r := by
    intro r hr
    refine exFn_of e14 ?_
    rw [fnK, ln0, s14]
    simp -implicitDefEqProofs only [↓runK_seq, runK_seq, ↓runK_cond, runK_cond, ↓runK_block, runK_block, ↓runK_loop, runK_loop, ↓runK_skip, runK_skip, ↓runK_ret, runK_ret, ↓runK_exit, runK_exit, ↓seqE_n, seqE_n, ↓seqE_e, seqE_e, ↓seqE_r, seqE_r, ↓blkE_n, blkE_n, ↓blkE_e, blkE_e, ↓blkE_r, blkE_r, ↓retK_n, retK_n, ↓retK_r, retK_r, ↓aCall_fn, aCall_fn, ↓bnd_s, bnd_s, ↓bnd2_s, bnd2_s, ↓onB_t, onB_t, ↓onB_f, onB_f, ↓onG_tt, onG_tt, ↓onG_tf, onG_tf, ↓onG_ft, onG_ft, ↓onG_ff, onG_ff, ↓onG_s, onG_s, ↓onT_t, onT_t, ↓aPick_t, aPick_t, ↓aPick_f, aPick_f, decide_true, decide_false, st_tmp, results1, results2, List.lookup_cons, List.lookup_nil, Nat.reduceBEq, Bool.false_eq_true, ↓reduceIte, BEq.rfl, Nat.reduceLT, Option.getD_some, Option.getD_none, ↓r14_0, r14_0, ↓r14_1, r14_1, J14_1_0, J14_1_1, J14_1_2, J14_1_3, J14_1_4, J14_1_5, J14_1_6, ↓r14_2, r14_2, ↓r14_3, r14_3, ↓r14_4, r14_4, J14_4_0, J14_4_1, J14_4_2, ↓r14_5, r14_5, ↓r14_6, r14_6, ↓r14_7, r14_7, ↓r14_8, r14_8, ↓r14_9, r14_9, ↓r14_10, r14_10, ↓r14_11, r14_11, ↓r14_12, r14_12, ↓r14_13, r14_13, ↓r14_14, r14_14, ↓r14_15, r14_15, ↓r14_16, r14_16, ↓r14_17, r14_17, ↓r14_18, r14_18, ↓r14_19, r14_19, ↓r14_20, r14_20, ↓r14_21, r14_21, ↓r14_22, r14_22, hx.len, bin_gtr, e1, bin_lss, e2, e3, e4, sk, e5, lk, min2_i64, mn, bin_sub, ws, e6]
    rw [f1]
    rw [← hr]
    split
    · simp -implicitDefEqProofs only [↓runK_seq, runK_seq, ↓runK_cond, runK_cond, ↓runK_block, runK_block, ↓runK_loop, runK_loop, ↓runK_skip, runK_skip, ↓runK_ret, runK_ret, ↓runK_exit, runK_exit, ↓seqE_n, seqE_n, ↓seqE_e, seqE_e, ↓seqE_r, seqE_r, ↓blkE_n, blkE_n, ↓blkE_e, blkE_e, ↓blkE_r, blkE_r, ↓retK_n, retK_n, ↓retK_r, retK_r]
    · simp -implicitDefEqProofs only [↓runK_seq, runK_seq, ↓runK_cond, runK_cond, ↓runK_block, runK_block, ↓runK_loop, runK_loop, ↓runK_skip, runK_skip, ↓runK_ret, runK_ret, ↓runK_exit, runK_exit, ↓seqE_n, seqE_n, ↓seqE_e, seqE_e, ↓seqE_r, seqE_r, ↓blkE_n, blkE_n, ↓blkE_e, blkE_e, ↓blkE_r, blkE_r, ↓retK_n, retK_n, ↓retK_r, retK_r, ↓aCall_fn, aCall_fn, ↓bnd_s, bnd_s, ↓bnd2_s, bnd2_s, ↓onB_t, onB_t, ↓onB_f, onB_f, ↓onG_tt, onG_tt, ↓onG_tf, onG_tf, ↓onG_ft, onG_ft, ↓onG_ff, onG_ff, ↓onG_s, onG_s, ↓onT_t, onT_t, ↓aPick_t, aPick_t, ↓aPick_f, aPick_f, decide_true, decide_false, st_tmp, results1, results2, List.lookup_cons, List.lookup_nil, Nat.reduceBEq, Bool.false_eq_true, ↓reduceIte, BEq.rfl, Nat.reduceLT, Option.getD_some, Option.getD_none]
  by_cases z1 : le = 0
  case neg =>
    rw [if_pos z1]
    refine ⟨h1, pre _ ?_, f2, f3⟩
    rw [if_neg z1]
  subst z1
  rw [if_neg (fun h => h rfl)]
  have c0 : decide ((0 : Int) ≠ 0) = false := by decide
  have up1 := up.keep f3
  obtain ⟨h2, g1, g2, g3⟩ := flush_ok f2 up1 (by omega) (by omega) false (k + 8) (by omega)
  have ffz := flush_fuse ld
  have flo := flush_loose ld
  generalize ld.flush = F at *
  obtain ⟨fe, fd⟩ := F
  simp only at g1 g2 ffz flo ⊢
  by_cases z2 : fe = 0
  case neg =>
    rw [if_pos z2]
    refine ⟨h2, pre _ ?_, g2, f3.trans g3⟩
    have c1 : decide (fe ≠ 0) = true := decide_eq_true z2
    rw [if_pos rfl]
    simp -implicitDefEqProofs only [↓runK_seq, runK_seq, ↓runK_cond, runK_cond, ↓runK_block, runK_block, ↓runK_loop, runK_loop, ↓runK_skip, runK_skip, ↓runK_ret, runK_ret, ↓runK_exit, runK_exit, ↓seqE_n, seqE_n, ↓seqE_e, seqE_e, ↓seqE_r, seqE_r, ↓blkE_n, blkE_n, ↓blkE_e, blkE_e, ↓blkE_r, blkE_r, ↓retK_n, retK_n, ↓retK_r, retK_r, ↓aCall_fn, aCall_fn, ↓bnd_s, bnd_s, ↓bnd2_s, bnd2_s, ↓onB_t, onB_t, ↓onB_f, onB_f, ↓onG_tt, onG_tt, ↓onG_tf, onG_tf, ↓onG_ft, onG_ft, ↓onG_ff, onG_ff, ↓onG_s, onG_s, ↓onT_t, onT_t, ↓aPick_t, aPick_t, ↓aPick_f, aPick_f, decide_true, decide_false, st_tmp, results1, results2, List.lookup_cons, List.lookup_nil, Nat.reduceBEq, Bool.false_eq_true, ↓reduceIte, BEq.rfl, Nat.reduceLT, Option.getD_some, Option.getD_none, ↓r14_0, r14_0, ↓r14_1, r14_1, J14_1_0, J14_1_1, J14_1_2, J14_1_3, J14_1_4, J14_1_5, J14_1_6, ↓r14_2, r14_2, ↓r14_3, r14_3, ↓r14_4, r14_4, J14_4_0, J14_4_1, J14_4_2, ↓r14_5, r14_5, ↓r14_6, r14_6, ↓r14_7, r14_7, ↓r14_8, r14_8, ↓r14_9, r14_9, ↓r14_10, r14_10, ↓r14_11, r14_11, ↓r14_12, r14_12, ↓r14_13, r14_13, ↓r14_14, r14_14, ↓r14_15, r14_15, ↓r14_16, r14_16, ↓r14_17, r14_17, ↓r14_18, r14_18, ↓r14_19, r14_19, ↓r14_20, r14_20, ↓r14_21, r14_21, ↓r14_22, r14_22, g1, neq27, c1]
  subst z2
  rw [if_neg (fun h => h rfl)]
  have up2 := up1.keep g3
  obtain ⟨y, h3, i1, i2, i3⟩ := first_ok hx (by omega) gen h2 (k + 8) (by omega)
  have g2' := g2.fresh i3
  have up3 := up2.keep i3
  obtain ⟨h4, j1, j2, j3⟩ := write_ok g2' up3 (a : Int) (U := fun _ => False) (b := head16 (BitVec.ofInt 32 gen) b) (.inl i2.bs) (fun _ _ h => h.elim) (by omega) (by omega) (k + 6)
  have wfz := write_fuse fd (a : Int) (head16 (BitVec.ofInt 32 gen) b)
  have wlo := write_loose fd (a : Int) (head16 (BitVec.ofInt 32 gen) b)
  have kk := (f3.trans g3).trans (i3.up up2)
  generalize fd.write (a : Int) (head16 (BitVec.ofInt 32 gen) b) = W at *
  obtain ⟨we, wd⟩ := W
  simp only at j1 j2 wfz wlo ⊢
  by_cases z3 : we = 0
  case neg =>
    rw [if_pos z3]
    refine ⟨h4, pre _ ?_, j2, kk.trans j3⟩
    have c1 : decide (we ≠ 0) = true := decide_eq_true z3
    rw [if_pos rfl]
    simp -implicitDefEqProofs only [↓runK_seq, runK_seq, ↓runK_cond, runK_cond, ↓runK_block, runK_block, ↓runK_loop, runK_loop, ↓runK_skip, runK_skip, ↓runK_ret, runK_ret, ↓runK_exit, runK_exit, ↓seqE_n, seqE_n, ↓seqE_e, seqE_e, ↓seqE_r, seqE_r, ↓blkE_n, blkE_n, ↓blkE_e, blkE_e, ↓blkE_r, blkE_r, ↓retK_n, retK_n, ↓retK_r, retK_r, ↓aCall_fn, aCall_fn, ↓bnd_s, bnd_s, ↓bnd2_s, bnd2_s, ↓onB_t, onB_t, ↓onB_f, onB_f, ↓onG_tt, onG_tt, ↓onG_tf, onG_tf, ↓onG_ft, onG_ft, ↓onG_ff, onG_ff, ↓onG_s, onG_s, ↓onT_t, onT_t, ↓aPick_t, aPick_t, ↓aPick_f, aPick_f, decide_true, decide_false, st_tmp, results1, results2, List.lookup_cons, List.lookup_nil, Nat.reduceBEq, Bool.false_eq_true, ↓reduceIte, BEq.rfl, Nat.reduceLT, Option.getD_some, Option.getD_none, ↓r14_0, r14_0, ↓r14_1, r14_1, J14_1_0, J14_1_1, J14_1_2, J14_1_3, J14_1_4, J14_1_5, J14_1_6, ↓r14_2, r14_2, ↓r14_3, r14_3, ↓r14_4, r14_4, J14_4_0, J14_4_1, J14_4_2, ↓r14_5, r14_5, ↓r14_6, r14_6, ↓r14_7, r14_7, ↓r14_8, r14_8, ↓r14_9, r14_9, ↓r14_10, r14_10, ↓r14_11, r14_11, ↓r14_12, r14_12, ↓r14_13, r14_13, ↓r14_14, r14_14, ↓r14_15, r14_15, ↓r14_16, r14_16, ↓r14_17, r14_17, ↓r14_18, r14_18, ↓r14_19, r14_19, ↓r14_20, r14_20, ↓r14_21, r14_21, ↓r14_22, r14_22, g1, neq27, c0, i1, j1, c1]
  subst z3
  rw [if_neg (fun h => h rfl)]
  have up4 := up3.keep j3
  obtain ⟨h5, l1, l2, l3⟩ := flush_ok j2 up4 (by omega) (by omega) false (k + 8) (by omega)
  generalize wd.flush = G at *
  obtain ⟨ge, gd⟩ := G
  simp only at l1 l2 ⊢
  by_cases z4 : ge = 0
  case neg =>
    rw [if_pos z4]
    refine ⟨h5, pre _ ?_, l2, (kk.trans j3).trans l3⟩
    have c1 : decide (ge ≠ 0) = true := decide_eq_true z4
    rw [if_pos rfl]
    simp -implicitDefEqProofs only [↓runK_seq, runK_seq, ↓runK_cond, runK_cond, ↓runK_block, runK_block, ↓runK_loop, runK_loop, ↓runK_skip, runK_skip, ↓runK_ret, runK_ret, ↓runK_exit, runK_exit, ↓seqE_n, seqE_n, ↓seqE_e, seqE_e, ↓seqE_r, seqE_r, ↓blkE_n, blkE_n, ↓blkE_e, blkE_e, ↓blkE_r, blkE_r, ↓retK_n, retK_n, ↓retK_r, retK_r, ↓aCall_fn, aCall_fn, ↓bnd_s, bnd_s, ↓bnd2_s, bnd2_s, ↓onB_t, onB_t, ↓onB_f, onB_f, ↓onG_tt, onG_tt, ↓onG_tf, onG_tf, ↓onG_ft, onG_ft, ↓onG_ff, onG_ff, ↓onG_s, onG_s, ↓onT_t, onT_t, ↓aPick_t, aPick_t, ↓aPick_f, aPick_f, decide_true, decide_false, st_tmp, results1, results2, List.lookup_cons, List.lookup_nil, Nat.reduceBEq, Bool.false_eq_true, ↓reduceIte, BEq.rfl, Nat.reduceLT, Option.getD_some, Option.getD_none, ↓r14_0, r14_0, ↓r14_1, r14_1, J14_1_0, J14_1_1, J14_1_2, J14_1_3, J14_1_4, J14_1_5, J14_1_6, ↓r14_2, r14_2, ↓r14_3, r14_3, ↓r14_4, r14_4, J14_4_0, J14_4_1, J14_4_2, ↓r14_5, r14_5, ↓r14_6, r14_6, ↓r14_7, r14_7, ↓r14_8, r14_8, ↓r14_9, r14_9, ↓r14_10, r14_10, ↓r14_11, r14_11, ↓r14_12, r14_12, ↓r14_13, r14_13, ↓r14_14, r14_14, ↓r14_15, r14_15, ↓r14_16, r14_16, ↓r14_17, r14_17, ↓r14_18, r14_18, ↓r14_19, r14_19, ↓r14_20, r14_20, ↓r14_21, r14_21, ↓r14_22, r14_22, g1, neq27, c0, i1, j1, l1, c1]
  subst z4
  rw [if_neg (fun h => h rfl)]
  refine ⟨h5, pre _ ?_, l2, (kk.trans j3).trans l3⟩
  have wf : IntKind.i64.wrap ((a : Int) + nn) = (a : Int) + nn := by rw [wrap_i64] <;> omega
  rw [if_pos rfl]
  simp -implicitDefEqProofs only [↓runK_seq, runK_seq, ↓runK_cond, runK_cond, ↓runK_block, runK_block, ↓runK_loop, runK_loop, ↓runK_skip, runK_skip, ↓runK_ret, runK_ret, ↓runK_exit, runK_exit, ↓seqE_n, seqE_n, ↓seqE_e, seqE_e, ↓seqE_r, seqE_r, ↓blkE_n, blkE_n, ↓blkE_e, blkE_e, ↓blkE_r, blkE_r, ↓retK_n, retK_n, ↓retK_r, retK_r, ↓aCall_fn, aCall_fn, ↓bnd_s, bnd_s, ↓bnd2_s, bnd2_s, ↓onB_t, onB_t, ↓onB_f, onB_f, ↓onG_tt, onG_tt, ↓onG_tf, onG_tf, ↓onG_ft, onG_ft, ↓onG_ff, onG_ff, ↓onG_s, onG_s, ↓onT_t, onT_t, ↓aPick_t, aPick_t, ↓aPick_f, aPick_f, decide_true, decide_false, st_tmp, results1, results2, List.lookup_cons, List.lookup_nil, Nat.reduceBEq, Bool.false_eq_true, ↓reduceIte, BEq.rfl, Nat.reduceLT, Option.getD_some, Option.getD_none, ↓r14_0, r14_0, ↓r14_1, r14_1, J14_1_0, J14_1_1, J14_1_2, J14_1_3, J14_1_4, J14_1_5, J14_1_6, ↓r14_2, r14_2, ↓r14_3, r14_3, ↓r14_4, r14_4, J14_4_0, J14_4_1, J14_4_2, ↓r14_5, r14_5, ↓r14_6, r14_6, ↓r14_7, r14_7, ↓r14_8, r14_8, ↓r14_9, r14_9, ↓r14_10, r14_10, ↓r14_11, r14_11, ↓r14_12, r14_12, ↓r14_13, r14_13, ↓r14_14, r14_14, ↓r14_15, r14_15, ↓r14_16, r14_16, ↓r14_17, r14_17, ↓r14_18, r14_18, ↓r14_19, r14_19, ↓r14_20, r14_20, ↓r14_21, r14_21, ↓r14_22, r14_22, g1, neq27, c0, i1, j1, l1, bin_add, wf, hnn]
end Go.Ax

set_option linter.unusedVariables false
namespace Go.Ax
open Go Go.Proofs
noncomputable def O15 (i : Nat) : Array Oper := opsOf i (bodyOf Try.f15)
noncomputable def B15_1 : Code := (.block 1 (.seq (.region 2 (O15 2) false) (.seq (.seq (.region 3 (O15 3) false) (.cond (Go.Operand.tmp 22) (.seq (.region 4 (O15 4) false) .ret) .skip)) (.seq (.region 5 (O15 5) false) (.region 6 (O15 6) false)))))
theorem s15 : bodyOf Try.f15 = (.seq (.region 0 (O15 0) false) (.seq (.region 1 (O15 1) false) (.block 0 (.loop B15_1)))) := by kernel_rfl
theorem e15 : E0 15 = some ⟨34, [8, 9], bodyOf Try.f15⟩ := by kernel_rfl
theorem r15_0 {β : Type} (call : CallF) (md : Bool) (n : Nat) (k : Ex → List AV → Heap → Option β) (x0 x1 x2 x3 : AV) (h : Heap) :
    runK C0 call md 15 n (.region 0 (O15 0) false) k (st 34 [(0, x0), (1, x1), (2, x2), (3, x3)]) h =
    k .normal (st 34 [(0, x0), (1, x1), (2, x2), (3, x3)]) h
  := by kernel_rfl
theorem r15_1 {β : Type} (call : CallF) (md : Bool) (n : Nat) (k : Ex → List AV → Heap → Option β) (x0 x1 x2 x3 : AV) (h : Heap) :
    runK C0 call md 15 n (.region 1 (O15 1) false) k (st 34 [(0, x0), (1, x1), (2, x2), (3, x3)]) h =
    k .normal (st 34 [(0, x0), (1, x1), (2, x2), (3, x3), (10, .nils)]) h
  := by kernel_rfl
theorem r15_2 {β : Type} (call : CallF) (md : Bool) (n : Nat) (k : Ex → List AV → Heap → Option β) (x0 x1 x2 x3 x10 : AV) (h : Heap) :
    runK C0 call md 15 n (.region 2 (O15 2) false) k (st 34 [(0, x0), (1, x1), (2, x2), (3, x3), (10, x10)]) h =
    bnd2 (aCall call md (.fn (.func 48) []) [x0, x1, x2, x3] h) fun v1 h2 =>
    bnd (aExtract v1 0) fun v3 =>
    bnd (aExtract v1 1) fun v4 =>
    k .normal (st 34 [(0, x0), (1, x1), (2, x2), (3, x3), (10, x10), (11, v3), (12, v4)]) h2
  := by kernel_rfl
theorem r15_3 {β : Type} (call : CallF) (md : Bool) (n : Nat) (k : Ex → List AV → Heap → Option β) (x0 x1 x2 x3 x10 x11 x12 : AV) (h : Heap) :
    runK C0 call md 15 n (.region 3 (O15 3) false) k (st 34 [(0, x0), (1, x1), (2, x2), (3, x3), (10, x10), (11, x11), (12, x12)]) h =
    bnd (aUn .not x12) fun v1 =>
    k .normal (st 34 [(0, x0), (1, x1), (2, x2), (3, x3), (10, x10), (11, x11), (22, v1)]) h
  := by kernel_rfl
theorem r15_4 {β : Type} (call : CallF) (md : Bool) (n : Nat) (k : Ex → List AV → Heap → Option β) (x0 x1 x2 x3 x10 x11 x22 : AV) (h : Heap) :
    runK C0 call md 15 n (.region 4 (O15 4) false) k (st 34 [(0, x0), (1, x1), (2, x2), (3, x3), (10, x10), (11, x11), (22, x22)]) h =
    k .normal (st 34 [(8, x10), (9, x1)]) h
  := by kernel_rfl
theorem r15_5 {β : Type} (call : CallF) (md : Bool) (n : Nat) (k : Ex → List AV → Heap → Option β) (x0 x1 x2 x3 x10 x11 x22 : AV) (h : Heap) :
    runK C0 call md 15 n (.region 5 (O15 5) false) k (st 34 [(0, x0), (1, x1), (2, x2), (3, x3), (10, x10), (11, x11), (22, x22)]) h =
    bnd (aLit tab 30 1 [(0, x11)]) fun v1 =>
    bnd2 (aApp tab 30 30 md x10 v1 h) fun v2 h3 =>
    k .normal (st 34 [(0, x0), (1, x1), (2, x2), (3, x3), (10, v2), (11, x11)]) h3
  := by kernel_rfl
theorem r15_6 {β : Type} (call : CallF) (md : Bool) (n : Nat) (k : Ex → List AV → Heap → Option β) (x0 x1 x2 x3 x10 x11 : AV) (h : Heap) :
    runK C0 call md 15 n (.region 6 (O15 6) false) k (st 34 [(0, x0), (1, x1), (2, x2), (3, x3), (10, x10), (11, x11)]) h =
    bnd (aLen tab 22 x11) fun v1 =>
    bnd2 (aCall call md (.fn (.func 45) []) [v1] h) fun v2 h3 =>
    bnd (aBinC tab .add 3 x1 v2 false) fun v4 =>
    k .normal (st 34 [(0, x0), (1, v4), (2, x2), (3, x3), (10, x10)]) h3
  := by kernel_rfl
end Go.Ax

namespace Go.Ax
open Go Go.Proofs
theorem oneOf_some {now : List (List UInt8)} (hc : ∀ b ∈ now, b.length = 64) {at' e gen : Int} {b : List UInt8} (h : oneOf now at' e gen = some b) :
    0 ≤ at' ∧ at' + sizeOf b.length ≤ now.length ∧ at' + sizeOf b.length ≤ e ∧ b.length ≤ 8192 := by
  unfold oneOf at h
  split at h
  · rename_i h0
    simp only at h
    split at h
    · cases h
    · split at h
      · cases h
      · rename_i h1 h2
        split at h
        · generalize hs : (get4 (((now[at'.toNat]?).getD []).drop 4)).toNat = size at *
          have h3 : ¬ 8192 < size := fun x => h2 (.inl x)
          have h4 : ¬ min e now.length - at' < sizeOf size := fun x => h2 (.inr x)
          have hl := bodyAt_length now hc at'.toNat ((sizeOf size).toNat - 1) (by unfold sizeOf at h4 ⊢; omega)
          have hb : b.length = size := by
            cases h
            rw [List.length_take, hl]
            unfold sizeOf
            omega
          rw [hb]
          exact ⟨h0.1, by omega, by omega, by omega⟩
        · cases h
  · cases h
theorem sizeOf_pos (n : Int) : 1 ≤ sizeOf n := by unfold sizeOf; omega
def scanOf (now : List (List UInt8)) (e gen : Int) : Nat → Int → List (List UInt8) × Int
  | 0, a => ([], a)
  | f + 1, a => match oneOf now a e gen with
    | none => ([], a)
    | some b => (b :: (scanOf now e gen f (a + sizeOf b.length)).1, (scanOf now e gen f (a + sizeOf b.length)).2)
theorem scanOf_none {now : List (List UInt8)} {e gen a : Int} {f : Nat} (h : oneOf now a e gen = none) : scanOf now e gen (f + 1) a = ([], a) := by simp [scanOf, h]
theorem scanOf_some {now : List (List UInt8)} {e gen a : Int} {f : Nat} {b : List UInt8} (h : oneOf now a e gen = some b) :
    scanOf now e gen (f + 1) a = (b :: (scanOf now e gen f (a + sizeOf b.length)).1, (scanOf now e gen f (a + sizeOf b.length)).2) := by simp [scanOf, h]
inductive BsL : List AV → List (List UInt8) → Prop
  | nil : BsL [] []
  | cons {v l vs ls} : Bs v l → BsL vs ls → BsL (v :: vs) (l :: ls)
def ApR (S : Obs) (h : Heap) (x : AV) (ls : List (List UInt8)) : Prop := ∃ vs, Ap 22 S h x vs ∧ BsL vs ls
theorem Bs.fits {x : AV} {l : List UInt8} (b : Bs x l) : fits tab 22 x = true := by
  rcases b with ⟨rfl, -⟩ | ⟨k, rfl⟩ <;> rfl
theorem lit30 (v : AV) (h : fits tab 22 v = true) : aLit tab 30 1 [(0, v)] = some (.vsl 22 [v] .exact) := by simp [aLit, aElems, aFill, h]
theorem app30 (x : AV) (new : List AV) (k : Tok) (h : Heap) : aApp tab 30 30 false x (.vsl 22 new k) h = aAppend tab 22 false x new h := by kernel_rfl
theorem BsL.length : ∀ {l : List AV} {m : List (List UInt8)}, BsL l m → l.length = m.length
  | _, _, .nil => rfl
  | _, _, .cons _ t => by simp [BsL.length t]
theorem BsL.append : ∀ {l l' : List AV} {m m' : List (List UInt8)}, BsL l m → BsL l' m' → BsL (l ++ l') (m ++ m')
  | _, _, _, _, .nil, h => h
  | _, _, _, _, .cons a t, h => .cons a (BsL.append t h)
theorem ApR.append {S : Obs} {h : Heap} {x v : AV} {ls : List (List UInt8)} {b : List UInt8} (a : ApR S h x ls) (up : Up S h) (hv : Bs v b) (hl : ls.length < 2 ^ 40) :
    ∃ x' h', aAppend tab 22 false x [v] h = some (x', h') ∧ ApR S h' x' (ls ++ [b]) ∧ Keep S h h' := by
  obtain ⟨vs, ha, hf⟩ := a
  have e := hf.length
  obtain ⟨x', h', kk, ap, -, ha2, k2, -⟩ := Ap.append (T := tab) (e := 22) (S := S) (h := h) (x := x) (l := vs) (new := [v]) (by rw [tu22]; exact ha) up (by simp) (by simp)
    (by simp only [tb22, List.length_singleton]; omega) (by simp only [List.length_singleton]; omega) (by simp)
  rw [tu22] at ha2
  exact ⟨x', h', ap, ⟨_, ha2, hf.append (.cons hv .nil)⟩, k2⟩
theorem ApR.fresh {S : Obs} {h h' : Heap} {x : AV} {ls : List (List UInt8)} (a : ApR S h x ls) (k : Keep (From h.length) h h') : ApR S h' x ls := by
  obtain ⟨vs, ha, hf⟩ := a
  exact ⟨vs, ha.fresh k, hf⟩
theorem scan_loop {S U : Obs} {p r : Nat} {d : Dk} (hl : d.loose.length < 2 ^ 30) (dis : ∀ i, S i → ¬ U i) (e gen : Int) (N : Nat) (hN : d.loose.length + 9000 < N) :
    ∀ (f n : Nat) (a : Int) (acc : AV) (h : Heap) (ls : List (List UInt8)), (0 ≤ a → (d.lasts.length : Int) - a < f) → f ≤ n → 0 < f → Up U h → Dsk S h p r d → ApR U h acc ls → ls.length + (f : Int) < 2 ^ 39 →
    ∃ acc' h', (∀ K : Ex → List AV → Heap → Option (AV × Heap), loopK (fun next => runK C0 (exFn C0 E0 (N + 1)) false 15 (N + 1) B15_1 (seqE next K)) n (st 34 [(0, dp p), (1, .int .i64 a), (2, .int .i64 e), (3, .int .i64 gen), (10, acc)]) h =
      K .ret (st 34 [(8, acc'), (9, .int .i64 (scanOf d.now e gen f a).2)]) h') ∧
      ApR U h' acc' (ls ++ (scanOf d.now e gen f a).1) ∧ Keep U h h' := by
  intro f
  induction f with
  | zero => intro n a acc h ls _ _ h0; omega
  | succ f ih =>
    intro n a acc h ls hf hn _ up D hacc hll
    obtain ⟨n, rfl⟩ : ∃ j, n = j + 1 := ⟨n - 1, by omega⟩
    obtain ⟨x, h1, r1, r2, r3⟩ := one_ok D hl a e gen N hN
    have D1 := D.fresh r3
    have acc1 := hacc.fresh r3
    have up1 := up.keep r3
    cases ho : oneOf d.now a e gen with
    | none =>
      rw [ho] at r1
      rw [scanOf_none ho]
      refine ⟨acc, h1, fun K => ?_, by simpa using acc1, r3.up up⟩
      rw [loopK_succ]
      generalize loopK (_ : (List AV → Heap → Option (AV × Heap)) → List AV → Heap → Option (AV × Heap)) n = Lp
      simp -implicitDefEqProofs only [B15_1, ↓runK_seq, runK_seq, ↓runK_cond, runK_cond, ↓runK_block, runK_block, ↓runK_loop, runK_loop, ↓runK_skip, runK_skip, ↓runK_ret, runK_ret, ↓runK_exit, runK_exit, ↓seqE_n, seqE_n, ↓seqE_e, seqE_e, ↓seqE_r, seqE_r, ↓blkE_n, blkE_n, ↓blkE_e, blkE_e, ↓blkE_r, blkE_r, ↓retK_n, retK_n, ↓retK_r, retK_r, ↓aCall_fn, aCall_fn, ↓bnd_s, bnd_s, ↓bnd2_s, bnd2_s, ↓onB_t, onB_t, ↓onB_f, onB_f, ↓onG_tt, onG_tt, ↓onG_tf, onG_tf, ↓onG_ft, onG_ft, ↓onG_ff, onG_ff, ↓onG_s, onG_s, ↓onT_t, onT_t, ↓aPick_t, aPick_t, ↓aPick_f, aPick_f, decide_true, decide_false, st_tmp, results1, results2, List.lookup_cons, List.lookup_nil, Nat.reduceBEq, Bool.false_eq_true, ↓reduceIte, BEq.rfl, Nat.reduceLT, Option.getD_some, Option.getD_none, ↓r15_0, r15_0, ↓r15_1, r15_1, ↓r15_2, r15_2, ↓r15_3, r15_3, ↓r15_4, r15_4, ↓r15_5, r15_5, ↓r15_6, r15_6, r1, ext0, ext1, un_not, Option.isSome_none, Bool.not_false]
    | some b =>
      rw [ho] at r1
      obtain ⟨b1, b2, b3, b4⟩ := oneOf_some D.now_cells ho
      have hf := hf b1
      rw [D.now_length] at b2
      have hfew := D.few
      have hsp := sizeOf_pos b.length
      rw [scanOf_some ho]
      have bs := (r2 b ho).bs
      obtain ⟨acc', h2, ap, a2, k2⟩ := acc1.append up1 bs (by omega)
      have sk := size_ok (b.length : Int) (by omega) false h2 N
      have wr : IntKind.i64.wrap (a + sizeOf b.length) = a + sizeOf b.length := by rw [wrap_i64] <;> omega
      have k12 := (r3.up up).trans k2
      obtain ⟨acc'', h3, g1, g2, g3⟩ := ih n (a + sizeOf b.length) acc' h2 (ls ++ [b]) (by omega) (by omega) (by omega) (up1.keep k2) (D.keep k12 fun j _ hj => dis j hj) a2 (by simp only [List.length_append, List.length_singleton]; omega)
      refine ⟨acc'', h3, fun K => ?_, by simpa using g2, k12.trans g3⟩
      rw [loopK_succ, ← g1 K]
      generalize loopK (_ : (List AV → Heap → Option (AV × Heap)) → List AV → Heap → Option (AV × Heap)) n = Lp
      simp -implicitDefEqProofs only [B15_1, ↓runK_seq, runK_seq, ↓runK_cond, runK_cond, ↓runK_block, runK_block, ↓runK_loop, runK_loop, ↓runK_skip, runK_skip, ↓runK_ret, runK_ret, ↓runK_exit, runK_exit, ↓seqE_n, seqE_n, ↓seqE_e, seqE_e, ↓seqE_r, seqE_r, ↓blkE_n, blkE_n, ↓blkE_e, blkE_e, ↓blkE_r, blkE_r, ↓retK_n, retK_n, ↓retK_r, retK_r, ↓aCall_fn, aCall_fn, ↓bnd_s, bnd_s, ↓bnd2_s, bnd2_s, ↓onB_t, onB_t, ↓onB_f, onB_f, ↓onG_tt, onG_tt, ↓onG_tf, onG_tf, ↓onG_ft, onG_ft, ↓onG_ff, onG_ff, ↓onG_s, onG_s, ↓onT_t, onT_t, ↓aPick_t, aPick_t, ↓aPick_f, aPick_f, decide_true, decide_false, st_tmp, results1, results2, List.lookup_cons, List.lookup_nil, Nat.reduceBEq, Bool.false_eq_true, ↓reduceIte, BEq.rfl, Nat.reduceLT, Option.getD_some, Option.getD_none, ↓r15_0, r15_0, ↓r15_1, r15_1, ↓r15_2, r15_2, ↓r15_3, r15_3, ↓r15_4, r15_4, ↓r15_5, r15_5, ↓r15_6, r15_6, r1, ext0, ext1, un_not, Option.isSome_some, Bool.not_true, lit30 _ bs.fits, app30, ap, bs.len, sk, bin_add, wr]
def Dk.scan (d : Dk) (a e gen : Int) : List (List UInt8) × Int := scanOf d.now e gen (d.lasts.length + 1) a
theorem scan_ok {S : Obs} {p r : Nat} {h : Heap} {d : Dk} (D : Dsk S h p r d) (hl : d.loose.length < 2 ^ 30) (a e gen : Int) (k : Nat) (hk : d.loose.length + 9001 < k) :
    ∃ x h', exFn C0 E0 (k + 1) false 15 [dp p, .int .i64 a, .int .i64 e, .int .i64 gen] h = some (.tuple [x, .int .i64 (d.scan a e gen).2], h') ∧
      ApR (From h.length) h' x (d.scan a e gen).1 ∧ Keep (From h.length) h h' := by
  obtain ⟨k, rfl⟩ : ∃ j, k = j + 1 := ⟨k - 1, by omega⟩
  have hfew := D.few
  have n0 : ([dp p, .int .i64 a, .int .i64 e, .int .i64 gen] ++ List.replicate (34 - [dp p, .int .i64 a, .int .i64 e, .int .i64 gen].length) AV.undef) = st 34 [(0, dp p), (1, .int .i64 a), (2, .int .i64 e), (3, .int .i64 gen)] := rfl
  obtain ⟨x, h', h1, h2, h3⟩ := scan_loop (U := From h.length) hl (S := fun i => i < h.length) (fun i hi hj => absurd hj (Nat.not_le.2 hi)) e gen k (by omega) (d.lasts.length + 1) (k + 1) a .nils h [] (by omega) (by omega) (by omega)
    (Up.fresh h) D.low ⟨[], .inl ⟨rfl, rfl⟩, .nil⟩ (by simp only [List.length_nil]; omega)
  refine ⟨x, h', exFn_of e15 ?_, h2, h3⟩
  rw [fnK, n0, s15]
  simp -implicitDefEqProofs only [↓runK_seq, runK_seq, ↓runK_cond, runK_cond, ↓runK_block, runK_block, ↓runK_loop, runK_loop, ↓runK_skip, runK_skip, ↓runK_ret, runK_ret, ↓runK_exit, runK_exit, ↓seqE_n, seqE_n, ↓seqE_e, seqE_e, ↓seqE_r, seqE_r, ↓blkE_n, blkE_n, ↓blkE_e, blkE_e, ↓blkE_r, blkE_r, ↓retK_n, retK_n, ↓retK_r, retK_r, ↓aCall_fn, aCall_fn, ↓bnd_s, bnd_s, ↓bnd2_s, bnd2_s, ↓onB_t, onB_t, ↓onB_f, onB_f, ↓onG_tt, onG_tt, ↓onG_tf, onG_tf, ↓onG_ft, onG_ft, ↓onG_ff, onG_ff, ↓onG_s, onG_s, ↓onT_t, onT_t, ↓aPick_t, aPick_t, ↓aPick_f, aPick_f, decide_true, decide_false, st_tmp, results1, results2, List.lookup_cons, List.lookup_nil, Nat.reduceBEq, Bool.false_eq_true, ↓reduceIte, BEq.rfl, Nat.reduceLT, Option.getD_some, Option.getD_none, ↓r15_0, r15_0, ↓r15_1, r15_1, ↓r15_2, r15_2, ↓r15_3, r15_3, ↓r15_4, r15_4, ↓r15_5, r15_5, ↓r15_6, r15_6]
  rw [h1]
  simp -implicitDefEqProofs only [↓runK_seq, runK_seq, ↓runK_cond, runK_cond, ↓runK_block, runK_block, ↓runK_loop, runK_loop, ↓runK_skip, runK_skip, ↓runK_ret, runK_ret, ↓runK_exit, runK_exit, ↓seqE_n, seqE_n, ↓seqE_e, seqE_e, ↓seqE_r, seqE_r, ↓blkE_n, blkE_n, ↓blkE_e, blkE_e, ↓blkE_r, blkE_r, ↓retK_n, retK_n, ↓retK_r, retK_r, ↓aCall_fn, aCall_fn, ↓bnd_s, bnd_s, ↓bnd2_s, bnd2_s, ↓onB_t, onB_t, ↓onB_f, onB_f, ↓onG_tt, onG_tt, ↓onG_tf, onG_tf, ↓onG_ft, onG_ft, ↓onG_ff, onG_ff, ↓onG_s, onG_s, ↓onT_t, onT_t, ↓aPick_t, aPick_t, ↓aPick_f, aPick_f, decide_true, decide_false, st_tmp, results1, results2, List.lookup_cons, List.lookup_nil, Nat.reduceBEq, Bool.false_eq_true, ↓reduceIte, BEq.rfl, Nat.reduceLT, Option.getD_some, Option.getD_none, Dk.scan]
end Go.Ax

set_option linter.unusedVariables false
namespace Go.Ax
open Go Go.Proofs
noncomputable def O22 (i : Nat) : Array Oper := opsOf i (bodyOf Try.f22)
noncomputable def B22_1 : Code := (.seq (.seq (.region 4 (O22 4) false) (.cond (Go.Operand.tmp 14) .skip (.exit 0))) (.seq (.block 1 (.seq (.region 6 (O22 6) true) (.cond (Go.Operand.tmp 25) (.seq (.region 7 (O22 7) false) .ret) .skip))) (.region 5 (O22 5) false)))
theorem s22 : bodyOf Try.f22 = (.seq (.region 0 (O22 0) false) (.seq (.seq (.region 1 (O22 1) false) (.cond (Go.Operand.tmp 10) (.seq (.region 2 (O22 2) false) .ret) .skip)) (.seq (.seq (.region 3 (O22 3) false) (.block 0 (.loop B22_1))) (.seq (.region 8 (O22 8) false) .ret)))) := by kernel_rfl
theorem e22 : E0 22 = some ⟨26, [4], bodyOf Try.f22⟩ := by kernel_rfl
theorem r22_0 {β : Type} (call : CallF) (md : Bool) (n : Nat) (k : Ex → List AV → Heap → Option β) (x0 x1 : AV) (h : Heap) :
    runK C0 call md 22 n (.region 0 (O22 0) false) k (st 26 [(0, x0), (1, x1)]) h =
    k .normal (st 26 [(0, x0), (1, x1)]) h
  := by kernel_rfl
theorem r22_1 {β : Type} (call : CallF) (md : Bool) (n : Nat) (k : Ex → List AV → Heap → Option β) (x0 x1 : AV) (h : Heap) :
    runK C0 call md 22 n (.region 1 (O22 1) false) k (st 26 [(0, x0), (1, x1)]) h =
    bnd (aLen tab 22 x0) fun v1 =>
    bnd (aLen tab 22 x1) fun v2 =>
    bnd (aBinC tab .neq 3 v1 v2 false) fun v3 =>
    k .normal (st 26 [(0, x0), (1, x1), (10, v3)]) h
  := by kernel_rfl
theorem r22_2 {β : Type} (call : CallF) (md : Bool) (n : Nat) (k : Ex → List AV → Heap → Option β) (x0 x1 x10 : AV) (h : Heap) :
    runK C0 call md 22 n (.region 2 (O22 2) false) k (st 26 [(0, x0), (1, x1), (10, x10)]) h =
    k .normal (st 26 [(4, (.bool false))]) h
  := by kernel_rfl
theorem r22_3 {β : Type} (call : CallF) (md : Bool) (n : Nat) (k : Ex → List AV → Heap → Option β) (x0 x1 x10 : AV) (h : Heap) :
    runK C0 call md 22 n (.region 3 (O22 3) false) k (st 26 [(0, x0), (1, x1), (10, x10)]) h =
    k .normal (st 26 [(0, x0), (1, x1), (5, (.int .i64 0))]) h
  := by kernel_rfl
theorem r22_4 {β : Type} (call : CallF) (md : Bool) (n : Nat) (k : Ex → List AV → Heap → Option β) (x0 x1 x5 : AV) (h : Heap) :
    runK C0 call md 22 n (.region 4 (O22 4) false) k (st 26 [(0, x0), (1, x1), (5, x5)]) h =
    bnd (aLen tab 22 x0) fun v1 =>
    bnd (aBinC tab .lss 3 x5 v1 false) fun v2 =>
    k .normal (st 26 [(0, x0), (1, x1), (5, x5), (14, v2)]) h
  := by kernel_rfl
theorem r22_5 {β : Type} (call : CallF) (md : Bool) (n : Nat) (k : Ex → List AV → Heap → Option β) (x0 x1 x5 x25 : AV) (h : Heap) :
    runK C0 call md 22 n (.region 5 (O22 5) false) k (st 26 [(0, x0), (1, x1), (5, x5), (25, x25)]) h =
    bnd (aBinC tab .add 3 x5 (.int .i64 1) true) fun v1 =>
    k .normal (st 26 [(0, x0), (1, x1), (5, v1)]) h
  := by kernel_rfl
theorem r22_6 {β : Type} (call : CallF) (md : Bool) (n : Nat) (k : Ex → List AV → Heap → Option β) (x0 x1 x5 x14 : AV) (h : Heap) :
    runK C0 call md 22 n (.region 6 (O22 6) true) k (st 26 [(0, x0), (1, x1), (5, x5), (14, x14)]) h =
    bnd (aIndexAddr tab 22 x0 x5) fun v1 =>
    bnd (aLoad tab 5 v1 h) fun v2 =>
    bnd (aIndexAddr tab 22 x1 x5) fun v3 =>
    bnd (aLoad tab 5 v3 h) fun v4 =>
    bnd (aBinC tab .neq 5 v2 v4 false) fun v5 =>
    k .normal (st 26 [(0, x0), (1, x1), (5, x5), (25, v5)]) h
  := by kernel_rfl
theorem r22_7 {β : Type} (call : CallF) (md : Bool) (n : Nat) (k : Ex → List AV → Heap → Option β) (x0 x1 x5 x25 : AV) (h : Heap) :
    runK C0 call md 22 n (.region 7 (O22 7) false) k (st 26 [(0, x0), (1, x1), (5, x5), (25, x25)]) h =
    k .normal (st 26 [(4, (.bool false))]) h
  := by kernel_rfl
theorem r22_8 {β : Type} (call : CallF) (md : Bool) (n : Nat) (k : Ex → List AV → Heap → Option β) (x0 x1 x5 x14 : AV) (h : Heap) :
    runK C0 call md 22 n (.region 8 (O22 8) false) k (st 26 [(0, x0), (1, x1), (5, x5), (14, x14)]) h =
    k .normal (st 26 [(4, (.bool true))]) h
  := by kernel_rfl
end Go.Ax

set_option linter.unusedVariables false
namespace Go.Ax
open Go Go.Proofs
noncomputable def O16 (i : Nat) : Array Oper := opsOf i (bodyOf Try.f16)
noncomputable def B16_1 : Code := (.seq (.seq (.region 4 (O16 4) false) (.cond (Go.Operand.tmp 14) .skip (.exit 0))) (.seq (.block 1 (.seq (.region 6 (O16 6) true) (.cond (Go.Operand.tmp 26) (.seq (.region 7 (O16 7) false) .ret) .skip))) (.region 5 (O16 5) false)))
theorem s16 : bodyOf Try.f16 = (.seq (.region 0 (O16 0) false) (.seq (.seq (.region 1 (O16 1) false) (.cond (Go.Operand.tmp 10) (.seq (.region 2 (O16 2) false) .ret) .skip)) (.seq (.seq (.region 3 (O16 3) false) (.block 0 (.loop B16_1))) (.seq (.region 8 (O16 8) false) .ret)))) := by kernel_rfl
theorem e16 : E0 16 = some ⟨27, [4], bodyOf Try.f16⟩ := by kernel_rfl
theorem r16_0 {β : Type} (call : CallF) (md : Bool) (n : Nat) (k : Ex → List AV → Heap → Option β) (x0 x1 : AV) (h : Heap) :
    runK C0 call md 16 n (.region 0 (O16 0) false) k (st 27 [(0, x0), (1, x1)]) h =
    k .normal (st 27 [(0, x0), (1, x1)]) h
  := by kernel_rfl
theorem r16_1 {β : Type} (call : CallF) (md : Bool) (n : Nat) (k : Ex → List AV → Heap → Option β) (x0 x1 : AV) (h : Heap) :
    runK C0 call md 16 n (.region 1 (O16 1) false) k (st 27 [(0, x0), (1, x1)]) h =
    bnd (aLen tab 30 x0) fun v1 =>
    bnd (aLen tab 30 x1) fun v2 =>
    bnd (aBinC tab .neq 3 v1 v2 false) fun v3 =>
    k .normal (st 27 [(0, x0), (1, x1), (10, v3)]) h
  := by kernel_rfl
theorem r16_2 {β : Type} (call : CallF) (md : Bool) (n : Nat) (k : Ex → List AV → Heap → Option β) (x0 x1 x10 : AV) (h : Heap) :
    runK C0 call md 16 n (.region 2 (O16 2) false) k (st 27 [(0, x0), (1, x1), (10, x10)]) h =
    k .normal (st 27 [(4, (.bool false))]) h
  := by kernel_rfl
theorem r16_3 {β : Type} (call : CallF) (md : Bool) (n : Nat) (k : Ex → List AV → Heap → Option β) (x0 x1 x10 : AV) (h : Heap) :
    runK C0 call md 16 n (.region 3 (O16 3) false) k (st 27 [(0, x0), (1, x1), (10, x10)]) h =
    k .normal (st 27 [(0, x0), (1, x1), (5, (.int .i64 0))]) h
  := by kernel_rfl
theorem r16_4 {β : Type} (call : CallF) (md : Bool) (n : Nat) (k : Ex → List AV → Heap → Option β) (x0 x1 x5 : AV) (h : Heap) :
    runK C0 call md 16 n (.region 4 (O16 4) false) k (st 27 [(0, x0), (1, x1), (5, x5)]) h =
    bnd (aLen tab 30 x0) fun v1 =>
    bnd (aBinC tab .lss 3 x5 v1 false) fun v2 =>
    k .normal (st 27 [(0, x0), (1, x1), (5, x5), (14, v2)]) h
  := by kernel_rfl
theorem r16_5 {β : Type} (call : CallF) (md : Bool) (n : Nat) (k : Ex → List AV → Heap → Option β) (x0 x1 x5 x26 : AV) (h : Heap) :
    runK C0 call md 16 n (.region 5 (O16 5) false) k (st 27 [(0, x0), (1, x1), (5, x5), (26, x26)]) h =
    bnd (aBinC tab .add 3 x5 (.int .i64 1) true) fun v1 =>
    k .normal (st 27 [(0, x0), (1, x1), (5, v1)]) h
  := by kernel_rfl
theorem r16_6 {β : Type} (call : CallF) (md : Bool) (n : Nat) (k : Ex → List AV → Heap → Option β) (x0 x1 x5 x14 : AV) (h : Heap) :
    runK C0 call md 16 n (.region 6 (O16 6) true) k (st 27 [(0, x0), (1, x1), (5, x5), (14, x14)]) h =
    bnd (aIndexAddr tab 30 x0 x5) fun v1 =>
    bnd (aLoad tab 22 v1 h) fun v2 =>
    bnd (aIndexAddr tab 30 x1 x5) fun v3 =>
    bnd (aLoad tab 22 v3 h) fun v4 =>
    bnd2 (aCall call md (.fn (.func 22) []) [v2, v4] h) fun v5 h6 =>
    bnd (aUn .not v5) fun v7 =>
    k .normal (st 27 [(0, x0), (1, x1), (5, x5), (26, v7)]) h6
  := by kernel_rfl
theorem r16_7 {β : Type} (call : CallF) (md : Bool) (n : Nat) (k : Ex → List AV → Heap → Option β) (x0 x1 x5 x26 : AV) (h : Heap) :
    runK C0 call md 16 n (.region 7 (O16 7) false) k (st 27 [(0, x0), (1, x1), (5, x5), (26, x26)]) h =
    k .normal (st 27 [(4, (.bool false))]) h
  := by kernel_rfl
theorem r16_8 {β : Type} (call : CallF) (md : Bool) (n : Nat) (k : Ex → List AV → Heap → Option β) (x0 x1 x5 x14 : AV) (h : Heap) :
    runK C0 call md 16 n (.region 8 (O16 8) false) k (st 27 [(0, x0), (1, x1), (5, x5), (14, x14)]) h =
    k .normal (st 27 [(4, (.bool true))]) h
  := by kernel_rfl
end Go.Ax

namespace Go.Ax
open Go Go.Proofs
theorem u8_neq (T : Tab) (t : Ty) (a b : UInt8) (c : Bool) : aBinC T .neq t (U8 a) (U8 b) c = some (.bool (decide (a ≠ b))) := by
  simp only [U8, bin_neq, ne_eq, Int.natCast_inj, UInt8.toNat_inj]
theorem drop_get {α : Type} {l : List α} {i : Nat} {a : α} (h : l[i]? = some a) : l.drop i = a :: l.drop (i + 1) := by
  obtain ⟨hl, rfl⟩ := List.getElem?_eq_some_iff.1 h
  exact List.drop_eq_getElem_cons hl
theorem same_loop {x y : AV} {l m : List UInt8} (hx : Bs x l) (hy : Bs y m) (hlm : l.length = m.length) (hl : l.length < 2 ^ 62) (call : CallF) (md : Bool) (N : Nat) (h : Heap) (K : Ex → List AV → Heap → Option (AV × Heap)) :
    ∀ (c i n : Nat), i + c = l.length → c < n →
    loopK (fun next => runK C0 call md 22 N B22_1 (seqE next K)) n (st 26 [(0, x), (1, y), (5, .int .i64 i)]) h =
      if l.drop i = m.drop i then K (.exit 0) (st 26 [(0, x), (1, y), (5, .int .i64 l.length), (14, .bool false)]) h else K .ret (st 26 [(4, .bool false)]) h := by
  intro c
  induction c with
  | zero =>
    intro i n hi hn
    obtain ⟨n, rfl⟩ : ∃ j, n = j + 1 := ⟨n - 1, by omega⟩
    obtain rfl : i = l.length := by omega
    rw [if_pos (by rw [List.drop_length, hlm, List.drop_length]), loopK_succ]
    generalize loopK (_ : (List AV → Heap → Option (AV × Heap)) → List AV → Heap → Option (AV × Heap)) n = Lp
    have e : decide (((l.length : Nat) : Int) < (l.length : Nat)) = false := decide_eq_false (by omega)
    simp -implicitDefEqProofs only [B22_1, ↓runK_seq, runK_seq, ↓runK_cond, runK_cond, ↓runK_block, runK_block, ↓runK_loop, runK_loop, ↓runK_skip, runK_skip, ↓runK_ret, runK_ret, ↓runK_exit, runK_exit, ↓seqE_n, seqE_n, ↓seqE_e, seqE_e, ↓seqE_r, seqE_r, ↓blkE_n, blkE_n, ↓blkE_e, blkE_e, ↓blkE_r, blkE_r, ↓retK_n, retK_n, ↓retK_r, retK_r, ↓aCall_fn, aCall_fn, ↓bnd_s, bnd_s, ↓bnd2_s, bnd2_s, ↓onB_t, onB_t, ↓onB_f, onB_f, ↓onG_tt, onG_tt, ↓onG_tf, onG_tf, ↓onG_ft, onG_ft, ↓onG_ff, onG_ff, ↓onG_s, onG_s, ↓onT_t, onT_t, ↓aPick_t, aPick_t, ↓aPick_f, aPick_f, decide_true, decide_false, st_tmp, results1, results2, List.lookup_cons, List.lookup_nil, Nat.reduceBEq, Bool.false_eq_true, ↓reduceIte, BEq.rfl, Nat.reduceLT, Option.getD_some, Option.getD_none, ↓r22_0, r22_0, ↓r22_1, r22_1, ↓r22_2, r22_2, ↓r22_3, r22_3, ↓r22_4, r22_4, ↓r22_5, r22_5, ↓r22_6, r22_6, ↓r22_7, r22_7, ↓r22_8, r22_8, hx.len, bin_lss, e]
  | succ c ih =>
    intro i n hi hn
    obtain ⟨n, rfl⟩ : ∃ j, n = j + 1 := ⟨n - 1, by omega⟩
    have e : decide (((i : Nat) : Int) < (l.length : Nat)) = true := decide_eq_true (by omega)
    have wr : IntKind.i64.wrap ((i : Int) + 1) = ((i + 1 : Nat) : Int) := by rw [wrap_i64] <;> omega
    obtain ⟨a, ha⟩ : ∃ a, l[i]? = some a := ⟨l[i]'(by omega), List.getElem?_eq_getElem _⟩
    obtain ⟨b, hb⟩ : ∃ b, m[i]? = some b := ⟨m[i]'(by omega), List.getElem?_eq_getElem _⟩
    have ih' := ih (i + 1) n (by omega) (by omega)
    rw [drop_get ha, drop_get hb, loopK_succ]
    generalize loopK (_ : (List AV → Heap → Option (AV × Heap)) → List AV → Heap → Option (AV × Heap)) n = Lp at *
    by_cases hab : a = b
    · have e1 : decide (a ≠ b) = false := decide_eq_false fun h => h hab
      simp only [hab, List.cons.injEq, true_and]
      rw [← ih']
      simp -implicitDefEqProofs only [B22_1, ↓runK_seq, runK_seq, ↓runK_cond, runK_cond, ↓runK_block, runK_block, ↓runK_loop, runK_loop, ↓runK_skip, runK_skip, ↓runK_ret, runK_ret, ↓runK_exit, runK_exit, ↓seqE_n, seqE_n, ↓seqE_e, seqE_e, ↓seqE_r, seqE_r, ↓blkE_n, blkE_n, ↓blkE_e, blkE_e, ↓blkE_r, blkE_r, ↓retK_n, retK_n, ↓retK_r, retK_r, ↓aCall_fn, aCall_fn, ↓bnd_s, bnd_s, ↓bnd2_s, bnd2_s, ↓onB_t, onB_t, ↓onB_f, onB_f, ↓onG_tt, onG_tt, ↓onG_tf, onG_tf, ↓onG_ft, onG_ft, ↓onG_ff, onG_ff, ↓onG_s, onG_s, ↓onT_t, onT_t, ↓aPick_t, aPick_t, ↓aPick_f, aPick_f, decide_true, decide_false, st_tmp, results1, results2, List.lookup_cons, List.lookup_nil, Nat.reduceBEq, Bool.false_eq_true, ↓reduceIte, BEq.rfl, Nat.reduceLT, Option.getD_some, Option.getD_none, ↓r22_0, r22_0, ↓r22_1, r22_1, ↓r22_2, r22_2, ↓r22_3, r22_3, ↓r22_4, r22_4, ↓r22_5, r22_5, ↓r22_6, r22_6, ↓r22_7, r22_7, ↓r22_8, r22_8, hx.len, bin_lss, e, hx.idx ha, hy.idx hb, load5, u8_neq, e1, bin_add, wr]
    · have e1 : decide (a ≠ b) = true := decide_eq_true hab
      rw [if_neg (by simp [hab])]
      simp -implicitDefEqProofs only [B22_1, ↓runK_seq, runK_seq, ↓runK_cond, runK_cond, ↓runK_block, runK_block, ↓runK_loop, runK_loop, ↓runK_skip, runK_skip, ↓runK_ret, runK_ret, ↓runK_exit, runK_exit, ↓seqE_n, seqE_n, ↓seqE_e, seqE_e, ↓seqE_r, seqE_r, ↓blkE_n, blkE_n, ↓blkE_e, blkE_e, ↓blkE_r, blkE_r, ↓retK_n, retK_n, ↓retK_r, retK_r, ↓aCall_fn, aCall_fn, ↓bnd_s, bnd_s, ↓bnd2_s, bnd2_s, ↓onB_t, onB_t, ↓onB_f, onB_f, ↓onG_tt, onG_tt, ↓onG_tf, onG_tf, ↓onG_ft, onG_ft, ↓onG_ff, onG_ff, ↓onG_s, onG_s, ↓onT_t, onT_t, ↓aPick_t, aPick_t, ↓aPick_f, aPick_f, decide_true, decide_false, st_tmp, results1, results2, List.lookup_cons, List.lookup_nil, Nat.reduceBEq, Bool.false_eq_true, ↓reduceIte, BEq.rfl, Nat.reduceLT, Option.getD_some, Option.getD_none, ↓r22_0, r22_0, ↓r22_1, r22_1, ↓r22_2, r22_2, ↓r22_3, r22_3, ↓r22_4, r22_4, ↓r22_5, r22_5, ↓r22_6, r22_6, ↓r22_7, r22_7, ↓r22_8, r22_8, hx.len, bin_lss, e, hx.idx ha, hy.idx hb, load5, u8_neq, e1]
theorem same_ok {x y : AV} {l m : List UInt8} (hx : Bs x l) (hy : Bs y m) (hl : l.length < 2 ^ 62) (md : Bool) (h : Heap) (k : Nat) (hk : l.length + 1 < k) : exFn C0 E0 k md 22 [x, y] h = some (.bool (decide (l = m)), h) := by
  obtain ⟨k, rfl⟩ : ∃ j, k = j + 1 := ⟨k - 1, by omega⟩
  have n0 : ([x, y] ++ List.replicate (26 - [x, y].length) AV.undef) = st 26 [(0, x), (1, y)] := rfl
  refine exFn_of e22 ?_
  rw [fnK, n0, s22]
  by_cases hlm : l.length = m.length
  · have e : decide (((l.length : Nat) : Int) ≠ (m.length : Nat)) = false := decide_eq_false (by omega)
    simp -implicitDefEqProofs only [↓runK_seq, runK_seq, ↓runK_cond, runK_cond, ↓runK_block, runK_block, ↓runK_loop, runK_loop, ↓runK_skip, runK_skip, ↓runK_ret, runK_ret, ↓runK_exit, runK_exit, ↓seqE_n, seqE_n, ↓seqE_e, seqE_e, ↓seqE_r, seqE_r, ↓blkE_n, blkE_n, ↓blkE_e, blkE_e, ↓blkE_r, blkE_r, ↓retK_n, retK_n, ↓retK_r, retK_r, ↓aCall_fn, aCall_fn, ↓bnd_s, bnd_s, ↓bnd2_s, bnd2_s, ↓onB_t, onB_t, ↓onB_f, onB_f, ↓onG_tt, onG_tt, ↓onG_tf, onG_tf, ↓onG_ft, onG_ft, ↓onG_ff, onG_ff, ↓onG_s, onG_s, ↓onT_t, onT_t, ↓aPick_t, aPick_t, ↓aPick_f, aPick_f, decide_true, decide_false, st_tmp, results1, results2, List.lookup_cons, List.lookup_nil, Nat.reduceBEq, Bool.false_eq_true, ↓reduceIte, BEq.rfl, Nat.reduceLT, Option.getD_some, Option.getD_none, ↓r22_0, r22_0, ↓r22_1, r22_1, ↓r22_2, r22_2, ↓r22_3, r22_3, ↓r22_4, r22_4, ↓r22_5, r22_5, ↓r22_6, r22_6, ↓r22_7, r22_7, ↓r22_8, r22_8, hx.len, hy.len, bin_neq, e]
    rw [show AV.int .i64 0 = .int .i64 ((0 : Nat) : Int) from rfl, same_loop hx hy hlm hl _ md k h _ l.length 0 k (by omega) (by omega), List.drop_zero, List.drop_zero]
    by_cases h2 : l = m
    · rw [if_pos h2, decide_eq_true h2]
      simp -implicitDefEqProofs only [↓runK_seq, runK_seq, ↓runK_cond, runK_cond, ↓runK_block, runK_block, ↓runK_loop, runK_loop, ↓runK_skip, runK_skip, ↓runK_ret, runK_ret, ↓runK_exit, runK_exit, ↓seqE_n, seqE_n, ↓seqE_e, seqE_e, ↓seqE_r, seqE_r, ↓blkE_n, blkE_n, ↓blkE_e, blkE_e, ↓blkE_r, blkE_r, ↓retK_n, retK_n, ↓retK_r, retK_r, ↓aCall_fn, aCall_fn, ↓bnd_s, bnd_s, ↓bnd2_s, bnd2_s, ↓onB_t, onB_t, ↓onB_f, onB_f, ↓onG_tt, onG_tt, ↓onG_tf, onG_tf, ↓onG_ft, onG_ft, ↓onG_ff, onG_ff, ↓onG_s, onG_s, ↓onT_t, onT_t, ↓aPick_t, aPick_t, ↓aPick_f, aPick_f, decide_true, decide_false, st_tmp, results1, results2, List.lookup_cons, List.lookup_nil, Nat.reduceBEq, Bool.false_eq_true, ↓reduceIte, BEq.rfl, Nat.reduceLT, Option.getD_some, Option.getD_none, ↓r22_0, r22_0, ↓r22_1, r22_1, ↓r22_2, r22_2, ↓r22_3, r22_3, ↓r22_4, r22_4, ↓r22_5, r22_5, ↓r22_6, r22_6, ↓r22_7, r22_7, ↓r22_8, r22_8]
    · rw [if_neg h2, decide_eq_false h2]
      simp -implicitDefEqProofs only [↓runK_seq, runK_seq, ↓runK_cond, runK_cond, ↓runK_block, runK_block, ↓runK_loop, runK_loop, ↓runK_skip, runK_skip, ↓runK_ret, runK_ret, ↓runK_exit, runK_exit, ↓seqE_n, seqE_n, ↓seqE_e, seqE_e, ↓seqE_r, seqE_r, ↓blkE_n, blkE_n, ↓blkE_e, blkE_e, ↓blkE_r, blkE_r, ↓retK_n, retK_n, ↓retK_r, retK_r, ↓aCall_fn, aCall_fn, ↓bnd_s, bnd_s, ↓bnd2_s, bnd2_s, ↓onB_t, onB_t, ↓onB_f, onB_f, ↓onG_tt, onG_tt, ↓onG_tf, onG_tf, ↓onG_ft, onG_ft, ↓onG_ff, onG_ff, ↓onG_s, onG_s, ↓onT_t, onT_t, ↓aPick_t, aPick_t, ↓aPick_f, aPick_f, decide_true, decide_false, st_tmp, results1, results2, List.lookup_cons, List.lookup_nil, Nat.reduceBEq, Bool.false_eq_true, ↓reduceIte, BEq.rfl, Nat.reduceLT, Option.getD_some, Option.getD_none, ↓r22_0, r22_0, ↓r22_1, r22_1, ↓r22_2, r22_2, ↓r22_3, r22_3, ↓r22_4, r22_4, ↓r22_5, r22_5, ↓r22_6, r22_6, ↓r22_7, r22_7, ↓r22_8, r22_8]
  · have e : decide (((l.length : Nat) : Int) ≠ (m.length : Nat)) = true := decide_eq_true (by omega)
    rw [decide_eq_false (show ¬ l = m from fun e => hlm (by rw [e]))]
    simp -implicitDefEqProofs only [↓runK_seq, runK_seq, ↓runK_cond, runK_cond, ↓runK_block, runK_block, ↓runK_loop, runK_loop, ↓runK_skip, runK_skip, ↓runK_ret, runK_ret, ↓runK_exit, runK_exit, ↓seqE_n, seqE_n, ↓seqE_e, seqE_e, ↓seqE_r, seqE_r, ↓blkE_n, blkE_n, ↓blkE_e, blkE_e, ↓blkE_r, blkE_r, ↓retK_n, retK_n, ↓retK_r, retK_r, ↓aCall_fn, aCall_fn, ↓bnd_s, bnd_s, ↓bnd2_s, bnd2_s, ↓onB_t, onB_t, ↓onB_f, onB_f, ↓onG_tt, onG_tt, ↓onG_tf, onG_tf, ↓onG_ft, onG_ft, ↓onG_ff, onG_ff, ↓onG_s, onG_s, ↓onT_t, onT_t, ↓aPick_t, aPick_t, ↓aPick_f, aPick_f, decide_true, decide_false, st_tmp, results1, results2, List.lookup_cons, List.lookup_nil, Nat.reduceBEq, Bool.false_eq_true, ↓reduceIte, BEq.rfl, Nat.reduceLT, Option.getD_some, Option.getD_none, ↓r22_0, r22_0, ↓r22_1, r22_1, ↓r22_2, r22_2, ↓r22_3, r22_3, ↓r22_4, r22_4, ↓r22_5, r22_5, ↓r22_6, r22_6, ↓r22_7, r22_7, ↓r22_8, r22_8, hx.len, hy.len, bin_neq, e]
def Rw (x : AV) (ls : List (List UInt8)) : Prop := (x = .nils ∧ ls = []) ∨ ∃ vs k, x = .vsl 22 vs k ∧ BsL vs ls
theorem ApR.rw {S : Obs} {h : Heap} {x : AV} {ls : List (List UInt8)} (a : ApR S h x ls) : Rw x ls := by
  obtain ⟨vs, ⟨rfl, rfl⟩ | ⟨k, rfl, -⟩, hf⟩ := a
  · cases hf; exact .inl ⟨rfl, rfl⟩
  · exact .inr ⟨vs, k, rfl, hf⟩
theorem Rw.len {x : AV} {ls : List (List UInt8)} (hx : Rw x ls) : aLen tab 30 x = some (.int .i64 ls.length) := by
  rcases hx with ⟨rfl, rfl⟩ | ⟨vs, k, rfl, hf⟩
  · exact len_nils30
  · rw [len30, hf.length]
theorem BsL.get : ∀ {vs : List AV} {ls : List (List UInt8)}, BsL vs ls → ∀ {i : Nat} {l : List UInt8}, ls[i]? = some l → ∃ v, vs[i]? = some v ∧ Bs v l
  | _, _, .nil, i, l, h => by simp at h
  | _, _, .cons a t, 0, l, h => by simp at h; subst h; exact ⟨_, rfl, a⟩
  | _, _, .cons a t, i + 1, l, h => by simpa using t.get (i := i) (by simpa using h)
theorem Rw.idx {x : AV} {ls : List (List UInt8)} (hx : Rw x ls) {i : Nat} {l : List UInt8} (hi : ls[i]? = some l) : ∃ v, aIndexAddr tab 30 x (.int .i64 i) = some (.vptr 22 v) ∧ Bs v l := by
  rcases hx with ⟨rfl, rfl⟩ | ⟨vs, k, rfl, hf⟩
  · simp at hi
  · obtain ⟨v, hv, hb⟩ := hf.get hi
    exact ⟨v, by rw [idx30, hv]; rfl, hb⟩
theorem rows_loop {x y : AV} {l m : List (List UInt8)} (hx : Rw x l) (hy : Rw y m) (hlm : l.length = m.length) (hl : l.length < 2 ^ 62) (B : Nat) (hB : ∀ b ∈ l, b.length < B) (hB2 : B < 2 ^ 62) (N : Nat) (hN : B + 1 < N) (md : Bool) (h : Heap) (K : Ex → List AV → Heap → Option (AV × Heap)) :
    ∀ (c i n : Nat), i + c = l.length → c < n →
    loopK (fun next => runK C0 (exFn C0 E0 N) md 16 N B16_1 (seqE next K)) n (st 27 [(0, x), (1, y), (5, .int .i64 i)]) h =
      if l.drop i = m.drop i then K (.exit 0) (st 27 [(0, x), (1, y), (5, .int .i64 l.length), (14, .bool false)]) h else K .ret (st 27 [(4, .bool false)]) h := by
  intro c
  induction c with
  | zero =>
    intro i n hi hn
    obtain ⟨n, rfl⟩ : ∃ j, n = j + 1 := ⟨n - 1, by omega⟩
    obtain rfl : i = l.length := by omega
    rw [if_pos (by rw [List.drop_length, hlm, List.drop_length]), loopK_succ]
    generalize loopK (_ : (List AV → Heap → Option (AV × Heap)) → List AV → Heap → Option (AV × Heap)) n = Lp
    have e : decide (((l.length : Nat) : Int) < (l.length : Nat)) = false := decide_eq_false (by omega)
    simp -implicitDefEqProofs only [B16_1, ↓runK_seq, runK_seq, ↓runK_cond, runK_cond, ↓runK_block, runK_block, ↓runK_loop, runK_loop, ↓runK_skip, runK_skip, ↓runK_ret, runK_ret, ↓runK_exit, runK_exit, ↓seqE_n, seqE_n, ↓seqE_e, seqE_e, ↓seqE_r, seqE_r, ↓blkE_n, blkE_n, ↓blkE_e, blkE_e, ↓blkE_r, blkE_r, ↓retK_n, retK_n, ↓retK_r, retK_r, ↓aCall_fn, aCall_fn, ↓bnd_s, bnd_s, ↓bnd2_s, bnd2_s, ↓onB_t, onB_t, ↓onB_f, onB_f, ↓onG_tt, onG_tt, ↓onG_tf, onG_tf, ↓onG_ft, onG_ft, ↓onG_ff, onG_ff, ↓onG_s, onG_s, ↓onT_t, onT_t, ↓aPick_t, aPick_t, ↓aPick_f, aPick_f, decide_true, decide_false, st_tmp, results1, results2, List.lookup_cons, List.lookup_nil, Nat.reduceBEq, Bool.false_eq_true, ↓reduceIte, BEq.rfl, Nat.reduceLT, Option.getD_some, Option.getD_none, ↓r16_0, r16_0, ↓r16_1, r16_1, ↓r16_2, r16_2, ↓r16_3, r16_3, ↓r16_4, r16_4, ↓r16_5, r16_5, ↓r16_6, r16_6, ↓r16_7, r16_7, ↓r16_8, r16_8, hx.len, bin_lss, e]
  | succ c ih =>
    intro i n hi hn
    obtain ⟨n, rfl⟩ : ∃ j, n = j + 1 := ⟨n - 1, by omega⟩
    have e : decide (((i : Nat) : Int) < (l.length : Nat)) = true := decide_eq_true (by omega)
    have wr : IntKind.i64.wrap ((i : Int) + 1) = ((i + 1 : Nat) : Int) := by rw [wrap_i64] <;> omega
    obtain ⟨a, ha⟩ : ∃ a, l[i]? = some a := ⟨l[i]'(by omega), List.getElem?_eq_getElem _⟩
    obtain ⟨b, hb⟩ : ∃ b, m[i]? = some b := ⟨m[i]'(by omega), List.getElem?_eq_getElem _⟩
    obtain ⟨u, hu, bu⟩ := hx.idx ha
    obtain ⟨v, hv, bv⟩ := hy.idx hb
    have haB := hB a (List.mem_of_getElem? ha)
    have sm := same_ok bu bv (by omega) md h N (by omega)
    have ih' := ih (i + 1) n (by omega) (by omega)
    rw [drop_get ha, drop_get hb, loopK_succ]
    generalize loopK (_ : (List AV → Heap → Option (AV × Heap)) → List AV → Heap → Option (AV × Heap)) n = Lp at *
    by_cases hab : a = b
    · have e1 : decide (a = b) = true := decide_eq_true hab
      rw [e1] at sm
      simp only [hab, List.cons.injEq, true_and]
      rw [← ih']
      simp -implicitDefEqProofs only [B16_1, ↓runK_seq, runK_seq, ↓runK_cond, runK_cond, ↓runK_block, runK_block, ↓runK_loop, runK_loop, ↓runK_skip, runK_skip, ↓runK_ret, runK_ret, ↓runK_exit, runK_exit, ↓seqE_n, seqE_n, ↓seqE_e, seqE_e, ↓seqE_r, seqE_r, ↓blkE_n, blkE_n, ↓blkE_e, blkE_e, ↓blkE_r, blkE_r, ↓retK_n, retK_n, ↓retK_r, retK_r, ↓aCall_fn, aCall_fn, ↓bnd_s, bnd_s, ↓bnd2_s, bnd2_s, ↓onB_t, onB_t, ↓onB_f, onB_f, ↓onG_tt, onG_tt, ↓onG_tf, onG_tf, ↓onG_ft, onG_ft, ↓onG_ff, onG_ff, ↓onG_s, onG_s, ↓onT_t, onT_t, ↓aPick_t, aPick_t, ↓aPick_f, aPick_f, decide_true, decide_false, st_tmp, results1, results2, List.lookup_cons, List.lookup_nil, Nat.reduceBEq, Bool.false_eq_true, ↓reduceIte, BEq.rfl, Nat.reduceLT, Option.getD_some, Option.getD_none, ↓r16_0, r16_0, ↓r16_1, r16_1, ↓r16_2, r16_2, ↓r16_3, r16_3, ↓r16_4, r16_4, ↓r16_5, r16_5, ↓r16_6, r16_6, ↓r16_7, r16_7, ↓r16_8, r16_8, hx.len, bin_lss, e, hu, hv, load22, sm, un_not, Bool.not_true, bin_add, wr]
    · have e1 : decide (a = b) = false := decide_eq_false hab
      rw [e1] at sm
      rw [if_neg (by simp [hab])]
      simp -implicitDefEqProofs only [B16_1, ↓runK_seq, runK_seq, ↓runK_cond, runK_cond, ↓runK_block, runK_block, ↓runK_loop, runK_loop, ↓runK_skip, runK_skip, ↓runK_ret, runK_ret, ↓runK_exit, runK_exit, ↓seqE_n, seqE_n, ↓seqE_e, seqE_e, ↓seqE_r, seqE_r, ↓blkE_n, blkE_n, ↓blkE_e, blkE_e, ↓blkE_r, blkE_r, ↓retK_n, retK_n, ↓retK_r, retK_r, ↓aCall_fn, aCall_fn, ↓bnd_s, bnd_s, ↓bnd2_s, bnd2_s, ↓onB_t, onB_t, ↓onB_f, onB_f, ↓onG_tt, onG_tt, ↓onG_tf, onG_tf, ↓onG_ft, onG_ft, ↓onG_ff, onG_ff, ↓onG_s, onG_s, ↓onT_t, onT_t, ↓aPick_t, aPick_t, ↓aPick_f, aPick_f, decide_true, decide_false, st_tmp, results1, results2, List.lookup_cons, List.lookup_nil, Nat.reduceBEq, Bool.false_eq_true, ↓reduceIte, BEq.rfl, Nat.reduceLT, Option.getD_some, Option.getD_none, ↓r16_0, r16_0, ↓r16_1, r16_1, ↓r16_2, r16_2, ↓r16_3, r16_3, ↓r16_4, r16_4, ↓r16_5, r16_5, ↓r16_6, r16_6, ↓r16_7, r16_7, ↓r16_8, r16_8, hx.len, bin_lss, e, hu, hv, load22, sm, un_not, Bool.not_false]
theorem rows_ok {x y : AV} {l m : List (List UInt8)} (hx : Rw x l) (hy : Rw y m) (hl : l.length < 2 ^ 62) (B : Nat) (hB : ∀ b ∈ l, b.length < B) (hB2 : B < 2 ^ 62) (md : Bool) (h : Heap) (k : Nat) (hk : l.length + B + 3 < k) :
    exFn C0 E0 k md 16 [x, y] h = some (.bool (decide (l = m)), h) := by
  obtain ⟨k, rfl⟩ : ∃ j, k = j + 1 := ⟨k - 1, by omega⟩
  have n0 : ([x, y] ++ List.replicate (27 - [x, y].length) AV.undef) = st 27 [(0, x), (1, y)] := rfl
  refine exFn_of e16 ?_
  rw [fnK, n0, s16]
  by_cases hlm : l.length = m.length
  · have e : decide (((l.length : Nat) : Int) ≠ (m.length : Nat)) = false := decide_eq_false (by omega)
    simp -implicitDefEqProofs only [↓runK_seq, runK_seq, ↓runK_cond, runK_cond, ↓runK_block, runK_block, ↓runK_loop, runK_loop, ↓runK_skip, runK_skip, ↓runK_ret, runK_ret, ↓runK_exit, runK_exit, ↓seqE_n, seqE_n, ↓seqE_e, seqE_e, ↓seqE_r, seqE_r, ↓blkE_n, blkE_n, ↓blkE_e, blkE_e, ↓blkE_r, blkE_r, ↓retK_n, retK_n, ↓retK_r, retK_r, ↓aCall_fn, aCall_fn, ↓bnd_s, bnd_s, ↓bnd2_s, bnd2_s, ↓onB_t, onB_t, ↓onB_f, onB_f, ↓onG_tt, onG_tt, ↓onG_tf, onG_tf, ↓onG_ft, onG_ft, ↓onG_ff, onG_ff, ↓onG_s, onG_s, ↓onT_t, onT_t, ↓aPick_t, aPick_t, ↓aPick_f, aPick_f, decide_true, decide_false, st_tmp, results1, results2, List.lookup_cons, List.lookup_nil, Nat.reduceBEq, Bool.false_eq_true, ↓reduceIte, BEq.rfl, Nat.reduceLT, Option.getD_some, Option.getD_none, ↓r16_0, r16_0, ↓r16_1, r16_1, ↓r16_2, r16_2, ↓r16_3, r16_3, ↓r16_4, r16_4, ↓r16_5, r16_5, ↓r16_6, r16_6, ↓r16_7, r16_7, ↓r16_8, r16_8, hx.len, hy.len, bin_neq, e]
    rw [show AV.int .i64 0 = .int .i64 ((0 : Nat) : Int) from rfl, rows_loop hx hy hlm hl B hB hB2 k (by omega) md h _ l.length 0 k (by omega) (by omega), List.drop_zero, List.drop_zero]
    by_cases h2 : l = m
    · rw [if_pos h2, decide_eq_true h2]
      simp -implicitDefEqProofs only [↓runK_seq, runK_seq, ↓runK_cond, runK_cond, ↓runK_block, runK_block, ↓runK_loop, runK_loop, ↓runK_skip, runK_skip, ↓runK_ret, runK_ret, ↓runK_exit, runK_exit, ↓seqE_n, seqE_n, ↓seqE_e, seqE_e, ↓seqE_r, seqE_r, ↓blkE_n, blkE_n, ↓blkE_e, blkE_e, ↓blkE_r, blkE_r, ↓retK_n, retK_n, ↓retK_r, retK_r, ↓aCall_fn, aCall_fn, ↓bnd_s, bnd_s, ↓bnd2_s, bnd2_s, ↓onB_t, onB_t, ↓onB_f, onB_f, ↓onG_tt, onG_tt, ↓onG_tf, onG_tf, ↓onG_ft, onG_ft, ↓onG_ff, onG_ff, ↓onG_s, onG_s, ↓onT_t, onT_t, ↓aPick_t, aPick_t, ↓aPick_f, aPick_f, decide_true, decide_false, st_tmp, results1, results2, List.lookup_cons, List.lookup_nil, Nat.reduceBEq, Bool.false_eq_true, ↓reduceIte, BEq.rfl, Nat.reduceLT, Option.getD_some, Option.getD_none, ↓r16_0, r16_0, ↓r16_1, r16_1, ↓r16_2, r16_2, ↓r16_3, r16_3, ↓r16_4, r16_4, ↓r16_5, r16_5, ↓r16_6, r16_6, ↓r16_7, r16_7, ↓r16_8, r16_8]
    · rw [if_neg h2, decide_eq_false h2]
      simp -implicitDefEqProofs only [↓runK_seq, runK_seq, ↓runK_cond, runK_cond, ↓runK_block, runK_block, ↓runK_loop, runK_loop, ↓runK_skip, runK_skip, ↓runK_ret, runK_ret, ↓runK_exit, runK_exit, ↓seqE_n, seqE_n, ↓seqE_e, seqE_e, ↓seqE_r, seqE_r, ↓blkE_n, blkE_n, ↓blkE_e, blkE_e, ↓blkE_r, blkE_r, ↓retK_n, retK_n, ↓retK_r, retK_r, ↓aCall_fn, aCall_fn, ↓bnd_s, bnd_s, ↓bnd2_s, bnd2_s, ↓onB_t, onB_t, ↓onB_f, onB_f, ↓onG_tt, onG_tt, ↓onG_tf, onG_tf, ↓onG_ft, onG_ft, ↓onG_ff, onG_ff, ↓onG_s, onG_s, ↓onT_t, onT_t, ↓aPick_t, aPick_t, ↓aPick_f, aPick_f, decide_true, decide_false, st_tmp, results1, results2, List.lookup_cons, List.lookup_nil, Nat.reduceBEq, Bool.false_eq_true, ↓reduceIte, BEq.rfl, Nat.reduceLT, Option.getD_some, Option.getD_none, ↓r16_0, r16_0, ↓r16_1, r16_1, ↓r16_2, r16_2, ↓r16_3, r16_3, ↓r16_4, r16_4, ↓r16_5, r16_5, ↓r16_6, r16_6, ↓r16_7, r16_7, ↓r16_8, r16_8]
  · have e : decide (((l.length : Nat) : Int) ≠ (m.length : Nat)) = true := decide_eq_true (by omega)
    rw [decide_eq_false (show ¬ l = m from fun e => hlm (by rw [e]))]
    simp -implicitDefEqProofs only [↓runK_seq, runK_seq, ↓runK_cond, runK_cond, ↓runK_block, runK_block, ↓runK_loop, runK_loop, ↓runK_skip, runK_skip, ↓runK_ret, runK_ret, ↓runK_exit, runK_exit, ↓seqE_n, seqE_n, ↓seqE_e, seqE_e, ↓seqE_r, seqE_r, ↓blkE_n, blkE_n, ↓blkE_e, blkE_e, ↓blkE_r, blkE_r, ↓retK_n, retK_n, ↓retK_r, retK_r, ↓aCall_fn, aCall_fn, ↓bnd_s, bnd_s, ↓bnd2_s, bnd2_s, ↓onB_t, onB_t, ↓onB_f, onB_f, ↓onG_tt, onG_tt, ↓onG_tf, onG_tf, ↓onG_ft, onG_ft, ↓onG_ff, onG_ff, ↓onG_s, onG_s, ↓onT_t, onT_t, ↓aPick_t, aPick_t, ↓aPick_f, aPick_f, decide_true, decide_false, st_tmp, results1, results2, List.lookup_cons, List.lookup_nil, Nat.reduceBEq, Bool.false_eq_true, ↓reduceIte, BEq.rfl, Nat.reduceLT, Option.getD_some, Option.getD_none, ↓r16_0, r16_0, ↓r16_1, r16_1, ↓r16_2, r16_2, ↓r16_3, r16_3, ↓r16_4, r16_4, ↓r16_5, r16_5, ↓r16_6, r16_6, ↓r16_7, r16_7, ↓r16_8, r16_8, hx.len, hy.len, bin_neq, e]
end Go.Ax

set_option linter.unusedVariables false
namespace Go.Ax
open Go Go.Proofs
noncomputable def O19 (i : Nat) : Array Oper := opsOf i (bodyOf Try.f19)
noncomputable def B19_1 : Code := (.seq (.seq (.region 3 (O19 3) false) (.cond (Go.Operand.tmp 19) .skip (.exit 0))) (.seq (.block 1 (.seq (.region 5 (O19 5) false) (.seq (.region 6 (O19 6) false) (.cond (Go.Operand.tmp 30) (.seq (.seq (.region 7 (O19 7) false) (.seq (.region 8 (O19 8) false) (.cond (Go.Operand.tmp 35) (.seq (.region 9 (O19 9) false) .ret) .skip))) (.region 10 (O19 10) false)) .skip)))) (.region 4 (O19 4) false)))
theorem s19 : bodyOf Try.f19 = (.seq (.region 0 (O19 0) false) (.seq (.region 1 (O19 1) false) (.seq (.seq (.region 2 (O19 2) false) (.block 0 (.loop B19_1))) (.seq (.seq (.region 11 (O19 11) false) (.cond (Go.Operand.tmp 38) (.seq (.region 12 (O19 12) false) .ret) .skip)) (.seq (.region 13 (O19 13) false) .ret))))) := by kernel_rfl
theorem e19 : E0 19 = some ⟨41, [6], bodyOf Try.f19⟩ := by kernel_rfl
theorem r19_0 {β : Type} (call : CallF) (md : Bool) (n : Nat) (k : Ex → List AV → Heap → Option β) (x0 x1 x2 : AV) (h : Heap) :
    runK C0 call md 19 n (.region 0 (O19 0) false) k (st 41 [(0, x0), (1, x1), (2, x2)]) h =
    k .normal (st 41 [(0, x0), (1, x1), (2, x2)]) h
  := by kernel_rfl
theorem r19_1 {β : Type} (call : CallF) (md : Bool) (n : Nat) (k : Ex → List AV → Heap → Option β) (x0 x1 x2 : AV) (h : Heap) :
    runK C0 call md 19 n (.region 1 (O19 1) false) k (st 41 [(0, x0), (1, x1), (2, x2)]) h =
    k .normal (st 41 [(0, x0), (1, x1), (2, x2), (7, (.bool false))]) h
  := by kernel_rfl
theorem r19_2 {β : Type} (call : CallF) (md : Bool) (n : Nat) (k : Ex → List AV → Heap → Option β) (x0 x1 x2 x7 : AV) (h : Heap) :
    runK C0 call md 19 n (.region 2 (O19 2) false) k (st 41 [(0, x0), (1, x1), (2, x2), (7, x7)]) h =
    bnd (aMax [x1, (.int .i64 0)]) fun v1 =>
    k .normal (st 41 [(0, x0), (2, x2), (7, x7), (8, v1)]) h
  := by kernel_rfl
theorem r19_3 {β : Type} (call : CallF) (md : Bool) (n : Nat) (k : Ex → List AV → Heap → Option β) (x0 x2 x7 x8 : AV) (h : Heap) :
    runK C0 call md 19 n (.region 3 (O19 3) false) k (st 41 [(0, x0), (2, x2), (7, x7), (8, x8)]) h =
    bnd2 (aCall call md (.fn (.func 46) []) [x0] h) fun v1 h2 =>
    bnd (aMin [x2, v1]) fun v3 =>
    bnd (aBinC tab .lss 3 x8 v3 false) fun v4 =>
    k .normal (st 41 [(0, x0), (2, x2), (7, x7), (8, x8), (19, v4)]) h2
  := by kernel_rfl
theorem r19_4a {β : Type} (call : CallF) (md : Bool) (n : Nat) (k : Ex → List AV → Heap → Option β) (x0 x2 x7 x8 x30 : AV) (h : Heap) :
    runK C0 call md 19 n (.region 4 (O19 4) false) k (st 41 [(0, x0), (2, x2), (7, x7), (8, x8), (30, x30)]) h =
    bnd (aBinC tab .add 3 x8 (.int .i64 1) true) fun v1 =>
    k .normal (st 41 [(0, x0), (2, x2), (7, x7), (8, v1)]) h
  := by kernel_rfl
theorem r19_4b {β : Type} (call : CallF) (md : Bool) (n : Nat) (k : Ex → List AV → Heap → Option β) (x0 x2 x7 x8 : AV) (h : Heap) :
    runK C0 call md 19 n (.region 4 (O19 4) false) k (st 41 [(0, x0), (2, x2), (7, x7), (8, x8)]) h =
    bnd (aBinC tab .add 3 x8 (.int .i64 1) true) fun v1 =>
    k .normal (st 41 [(0, x0), (2, x2), (7, x7), (8, v1)]) h
  := by kernel_rfl
theorem r19_5 {β : Type} (call : CallF) (md : Bool) (n : Nat) (k : Ex → List AV → Heap → Option β) (x0 x2 x7 x8 x19 : AV) (h : Heap) :
    runK C0 call md 19 n (.region 5 (O19 5) false) k (st 41 [(0, x0), (2, x2), (7, x7), (8, x8), (19, x19)]) h =
    bnd2 (aCall call md (.fn (.func 38) []) [x0, x8] h) fun v1 h2 =>
    bnd (aExtract v1 0) fun v3 =>
    bnd (aExtract v1 1) fun v4 =>
    k .normal (st 41 [(0, x0), (2, x2), (7, x7), (8, x8), (9, v3)]) h2
  := by kernel_rfl
theorem r19_6 {β : Type} (call : CallF) (md : Bool) (n : Nat) (k : Ex → List AV → Heap → Option β) (x0 x2 x7 x8 x9 : AV) (h : Heap) :
    runK C0 call md 19 n (.region 6 (O19 6) false) k (st 41 [(0, x0), (2, x2), (7, x7), (8, x8), (9, x9)]) h =
    bnd2 (aCall call md (.fn (.func 51) []) [x9] h) fun v1 h2 =>
    bnd (aUn .not v1) fun v3 =>
    k .normal (st 41 [(0, x0), (2, x2), (7, x7), (8, x8), (30, v3)]) h2
  := by kernel_rfl
theorem r19_7 {β : Type} (call : CallF) (md : Bool) (n : Nat) (k : Ex → List AV → Heap → Option β) (x0 x2 x7 x8 x30 : AV) (h : Heap) :
    runK C0 call md 19 n (.region 7 (O19 7) false) k (st 41 [(0, x0), (2, x2), (7, x7), (8, x8), (30, x30)]) h =
    bnd2 (aCall call md (.fn (.func 17) []) [x0, x8, .nils] h) fun v1 h2 =>
    k .normal (st 41 [(0, x0), (2, x2), (8, x8), (11, v1)]) h2
  := by kernel_rfl
theorem r19_8 {β : Type} (call : CallF) (md : Bool) (n : Nat) (k : Ex → List AV → Heap → Option β) (x0 x2 x8 x11 : AV) (h : Heap) :
    runK C0 call md 19 n (.region 8 (O19 8) false) k (st 41 [(0, x0), (2, x2), (8, x8), (11, x11)]) h =
    bnd (aBinC tab .neq 27 x11 (.int .i64 0) true) fun v1 =>
    k .normal (st 41 [(0, x0), (2, x2), (8, x8), (11, x11), (35, v1)]) h
  := by kernel_rfl
theorem r19_9 {β : Type} (call : CallF) (md : Bool) (n : Nat) (k : Ex → List AV → Heap → Option β) (x0 x2 x8 x11 x35 : AV) (h : Heap) :
    runK C0 call md 19 n (.region 9 (O19 9) false) k (st 41 [(0, x0), (2, x2), (8, x8), (11, x11), (35, x35)]) h =
    k .normal (st 41 [(6, x11)]) h
  := by kernel_rfl
theorem r19_10 {β : Type} (call : CallF) (md : Bool) (n : Nat) (k : Ex → List AV → Heap → Option β) (x0 x2 x8 x11 x35 : AV) (h : Heap) :
    runK C0 call md 19 n (.region 10 (O19 10) false) k (st 41 [(0, x0), (2, x2), (8, x8), (11, x11), (35, x35)]) h =
    k .normal (st 41 [(0, x0), (2, x2), (7, (.bool true)), (8, x8)]) h
  := by kernel_rfl
theorem r19_11 {β : Type} (call : CallF) (md : Bool) (n : Nat) (k : Ex → List AV → Heap → Option β) (x0 x2 x7 x8 x19 : AV) (h : Heap) :
    runK C0 call md 19 n (.region 11 (O19 11) false) k (st 41 [(0, x0), (2, x2), (7, x7), (8, x8), (19, x19)]) h =
    bnd (aUn .not x7) fun v1 =>
    k .normal (st 41 [(0, x0), (38, v1)]) h
  := by kernel_rfl
theorem r19_12 {β : Type} (call : CallF) (md : Bool) (n : Nat) (k : Ex → List AV → Heap → Option β) (x0 x38 : AV) (h : Heap) :
    runK C0 call md 19 n (.region 12 (O19 12) false) k (st 41 [(0, x0), (38, x38)]) h =
    k .normal (st 41 [(6, (.int .i64 0))]) h
  := by kernel_rfl
theorem r19_13 {β : Type} (call : CallF) (md : Bool) (n : Nat) (k : Ex → List AV → Heap → Option β) (x0 x38 : AV) (h : Heap) :
    runK C0 call md 19 n (.region 13 (O19 13) false) k (st 41 [(0, x0), (38, x38)]) h =
    bnd2 (aCall call md (.fn (.func 18) []) [x0] h) fun v1 h2 =>
    k .normal (st 41 [(6, v1)]) h2
  := by kernel_rfl
end Go.Ax
