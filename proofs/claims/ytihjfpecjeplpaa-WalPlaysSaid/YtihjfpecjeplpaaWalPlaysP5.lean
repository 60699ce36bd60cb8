/- An interpreter of Go code over a small abstract heap, proved sound against the model, and what the functions that WalPlays reaches compute (part 5); each theorem for the inputs that it names. -/
import Derived.Test.YtihjfpecjeplpaaWalPlaysP4
set_option linter.unusedSimpArgs false
set_option linter.unusedVariables false
set_option linter.defProp false

namespace Go.Ax
open Go Go.Proofs
theorem rlp_chk (q : Nat) : aNil (rlp q) = some (rlp q) := rfl
theorem rlpf0 (q : Nat) : aFieldAddr tab 76 (rlp q) 0 = some (.ref q [0] 50) := by simp [aFieldAddr]
theorem rlpf1 (q : Nat) : aFieldAddr tab 76 (rlp q) 1 = some (.ref q [1] 3) := by simp [aFieldAddr]
theorem rlpf2 (q : Nat) : aFieldAddr tab 76 (rlp q) 2 = some (.ref q [2] 3) := by simp [aFieldAddr]
theorem rlpf3 (q : Nat) : aFieldAddr tab 76 (rlp q) 3 = some (.ref q [3] 4) := by simp [aFieldAddr]
section fields
variable {h : Heap} {q p gen : Nat} {pos : Int} {w : Bool} (hq : h[q]? = some (rlv p gen pos w))
include hq
theorem rlld0 : aLoad tab 50 (.ref q [0] 50) h = some (rp p) := load_fld (i := 0) hq rfl (by simp)
theorem rlld1 : aLoad tab 3 (.ref q [1] 3) h = some (.int .i64 gen) := load_fld (i := 1) hq rfl (by simp)
theorem rlld2 : aLoad tab 3 (.ref q [2] 3) h = some (.int .i64 pos) := load_fld (i := 2) hq rfl (by simp)
theorem rlld3 : aLoad tab 4 (.ref q [3] 4) h = some (.bool w) := load_fld (i := 3) hq rfl (by simp)
theorem rlst1 (g : Nat) : aStore tab 3 (.ref q [1] 3) (.int .i64 g) h = some (h.set q (rlv p g pos w)) := store_fld (i := 1) hq rfl (by simp) rfl
theorem rlst2 (a : Int) : aStore tab 3 (.ref q [2] 3) (.int .i64 a) h = some (h.set q (rlv p gen a w)) := store_fld (i := 2) hq rfl (by simp) rfl
theorem rlst3 (c : Bool) : aStore tab 4 (.ref q [3] 4) (.bool c) h = some (h.set q (rlv p gen pos c)) := store_fld (i := 3) hq rfl (by simp) rfl
end fields
theorem Rlk.set {S : Obs} {h : Heap} {q p r : Nat} {w : Wl} (hq : S q) (hv : h[q]? = some (rlv p w.gen w.pos w.down)) {d : Dk} (D : Rsk (fun i => S i ∧ i ≠ q) h p r d) (gen : Nat) (pos : Int) (dn : Bool) :
    Rlk S (h.set q (rlv p gen pos dn)) q p r ⟨d, gen, pos, dn⟩ ∧ Keep S h (h.set q (rlv p gen pos dn)) := by
  have hlt := (List.getElem?_eq_some_iff.1 hv).1
  refine ⟨⟨hq, by simp [hlt], D.keep (U := fun i => i = q) (Keep.set h _ rfl) fun i _ h1 h2 => h1.2 h2⟩, Keep.set h _ hq⟩
def Wl.rappend (w : Wl) (b : List UInt8) : Int × Wl :=
  if w.down then (4, w)
  else
    let r := w.d.rlay w.pos (toOf w.d.lasts.length w.gen : Nat) w.gen b
    (r.1.2, ⟨r.2, w.gen, if r.1.2 = 0 then r.1.1 else w.pos, decide (r.1.2 = 4)⟩)
def Wl.rcheckpoint (w : Wl) (b : List UInt8) : Int × Wl :=
  if w.down then (4, w)
  else
    let n := w.d.lasts.length
    let gen := w.gen + 1
    if 8192 < b.length then (1, w)
    else if 2147483647 < gen ∨ ((toOf n gen : Nat) : Int) - (fromOf n gen : Nat) < nOf b then (3, w)
    else
      let c := w.d.rclean (fromOf n gen : Nat) (toOf n gen : Nat)
      if c.1 ≠ 0 then (c.1, ⟨c.2, w.gen, w.pos, decide (c.1 = 4)⟩)
      else
        let r := c.2.rlay (fromOf n gen : Nat) (toOf n gen : Nat) gen b
        if r.1.2 ≠ 0 then (r.1.2, ⟨r.2, w.gen, w.pos, decide (r.1.2 = 4)⟩)
        else
          let i := r.2.rinstall gen
          if i.1 = 0 then (0, ⟨i.2, gen, r.1.1, false⟩) else (i.1, ⟨i.2, w.gen, w.pos, decide (i.1 = 4)⟩)
theorem rlay_sz (d : Dk) (at' e gen : Int) (b : List UInt8) (hl : d.lasts.length ≤ 1024) : (d.rlay at' e gen b).2.loose.length ≤ d.loose.length + 1100 ∧ (d.rlay at' e gen b).2.fuse ≤ d.fuse ∧ (d.rlay at' e gen b).2.lasts.length = d.lasts.length := by
  unfold Dk.rlay
  by_cases q1 : 8192 < b.length ∨ gen < 0 ∨ 2147483647 < gen ∨ at' < 0
  · rw [if_pos q1]; exact ⟨Nat.le_add_right _ _, Int.le_refl _, rfl⟩
  rw [if_neg q1]
  by_cases q2 : min e d.lasts.length < at' ∨ min e d.lasts.length - at' < nOf b
  · rw [if_pos q2]; exact ⟨Nat.le_add_right _ _, Int.le_refl _, rfl⟩
  rw [if_neg q2]
  have hn := nOf_eq' b
  have h0 := rlayLoop_sz at' b (nOf b - 1) 1 d
  generalize rlayLoop at' b (nOf b - 1) 1 d = L at *
  obtain ⟨le, ld⟩ := L
  simp only at *
  split
  · simp only; omega
  have f1 := rflush_fuse ld
  have f2 := rflush_loose ld
  have f3 := rflush_len ld
  generalize ld.rflush = F at *
  obtain ⟨fe, fd⟩ := F
  simp only at *
  split
  · simp only; omega
  have w1 := rwrite_loose fd at' (pad (head16 (BitVec.ofInt 32 gen) b))
  have w2 := rwrite_fuse fd at' (pad (head16 (BitVec.ofInt 32 gen) b))
  have w3 := rwrite_len fd at' (pad (head16 (BitVec.ofInt 32 gen) b))
  generalize fd.rwrite at' (pad (head16 (BitVec.ofInt 32 gen) b)) = W at *
  obtain ⟨we, wd⟩ := W
  simp only at *
  split
  · simp only; omega
  have g1 := rflush_fuse wd
  have g2 := rflush_loose wd
  have g3 := rflush_len wd
  generalize wd.rflush = G at *
  obtain ⟨ge, gd⟩ := G
  simp only at *
  split <;> (simp only; omega)
theorem rappend_ok {S : Obs} {h : Heap} {q p r : Nat} {w : Wl} (L : Rlk S h q p r w) (up : Up S h) (hn : 2 ≤ w.d.lasts.length) (hg : w.gen < 2 ^ 62) (hp : w.pos < 2 ^ 62) (hl : w.d.loose.length ≤ 1100) (hf : w.d.fuse < 2 ^ 63) {x : AV} {b : List UInt8} (hx : Bs x b) (hb : b.length < 10000) (k : Nat) (hk : 16400 < k) :
    ∃ h', exFn C0 E0 (k + 1) false 41 [rlp q, x] h = some (.int .i64 (w.rappend b).1, h') ∧ Rlk S h' q p r (w.rappend b).2 ∧ Keep S h h' := by
  obtain ⟨k, rfl⟩ : ∃ j, k = j + 3 := ⟨k - 3, by omega⟩
  have n0 : ([rlp q, x] ++ List.replicate (55 - [rlp q, x].length) AV.undef) = st 55 [(0, rlp q), (1, x)] := rfl
  have hlt := (List.getElem?_eq_some_iff.1 L.var).1
  have hv := L.var
  unfold Wl.rappend
  cases hd : w.down
  case true =>
    rw [hd] at hv
    refine ⟨h, exFn_of e41 ?_, L, Keep.refl _ _⟩
    rw [fnK, n0, s41]
    simp -implicitDefEqProofs only [↓RK, RK, ↓RB, RB, decide_true, decide_false, STs, Nat.reduceBEq, ↓reduceIte, Nat.reduceLT, ↓R41, R41, rlp_chk, rlpf3, rlld3 hv]
  have bk := rbounds_ok L.dsk hn w.gen hg false (k + 2)
  have upd : Up (fun i => S i ∧ i ≠ q) h := fun i hi => ⟨up i hi, by omega⟩
  obtain ⟨h1, l1, D1, k1⟩ := rlay_ok L.dsk upd (by omega) hf w.pos (toOf w.d.lasts.length w.gen : Nat) w.gen (by omega) hx (by omega) (k + 2) (by omega) (by omega)
  simp only [Bool.false_eq_true, if_false]
  generalize w.d.rlay w.pos (toOf w.d.lasts.length w.gen : Nat) w.gen b = R at *
  obtain ⟨⟨nx, le⟩, ld⟩ := R
  simp only at *
  have hv1 : h1[q]? = some (rlv p w.gen w.pos w.down) := by rw [k1.2 q (fun h => h.2 rfl)]; exact hv
  rw [hd] at hv hv1
  have kk := k1.mono (U := S) fun i hi => hi.1
  by_cases z : le = 0
  · subst z
    obtain ⟨L2, k2⟩ := Rlk.set (w := ⟨ld, w.gen, w.pos, false⟩) L.hq hv1 D1 w.gen nx false
    obtain ⟨L3, k3⟩ := Rlk.set (w := ⟨ld, w.gen, nx, false⟩) L.hq L2.var L2.dsk w.gen nx (decide ((0 : Int) = 4))
    have e1 : decide ((0 : Int) = 0) = true := by decide
    refine ⟨_, exFn_of e41 ?_, L3, (kk.trans k2).trans k3⟩
    rw [fnK, n0, s41]
    simp -implicitDefEqProofs only [↓RK, RK, ↓RB, RB, decide_true, decide_false, STs, Nat.reduceBEq, ↓reduceIte, Nat.reduceLT, ↓R41, R41, rlp_chk, rlpf0, rlpf1, rlpf2, rlpf3, rlld0 hv, rlld1 hv, rlld2 hv, rlld3 hv, bk, ext0, ext1, l1, bin_eql, e1, rlst2 hv1, rlst3 L2.var]
  · obtain ⟨L3, k3⟩ := Rlk.set (w := ⟨ld, w.gen, w.pos, false⟩) L.hq hv1 D1 w.gen w.pos (decide (le = 4))
    have e1 : decide (le = 0) = false := decide_eq_false z
    rw [if_neg z]
    refine ⟨_, exFn_of e41 ?_, L3, kk.trans k3⟩
    rw [fnK, n0, s41]
    simp -implicitDefEqProofs only [↓RK, RK, ↓RB, RB, decide_true, decide_false, STs, Nat.reduceBEq, ↓reduceIte, Nat.reduceLT, ↓R41, R41, rlp_chk, rlpf0, rlpf1, rlpf2, rlpf3, rlld0 hv, rlld1 hv, rlld2 hv, rlld3 hv, bk, ext0, ext1, l1, bin_eql, e1, rlst3 hv1]
theorem rcheckpoint_ok {S : Obs} {h : Heap} {q p r : Nat} {w : Wl} (L : Rlk S h q p r w) (up : Up S h) (hn : 2 ≤ w.d.lasts.length) (hg : w.gen < 2 ^ 61) (hl : w.d.loose.length ≤ 1100) (hf : w.d.fuse < 2 ^ 63) {x : AV} {b : List UInt8} (hx : Bs x b) (hb : b.length < 10000) (k : Nat) (hk : 20400 < k) :
    ∃ h', exFn C0 E0 (k + 1) false 42 [rlp q, x] h = some (.int .i64 (w.rcheckpoint b).1, h') ∧ Rlk S h' q p r (w.rcheckpoint b).2 ∧ Keep S h h' := by
  obtain ⟨k, rfl⟩ : ∃ j, k = j + 3 := ⟨k - 3, by omega⟩
  have n0 : ([rlp q, x] ++ List.replicate (97 - [rlp q, x].length) AV.undef) = st 97 [(0, rlp q), (1, x)] := rfl
  have hlt := (List.getElem?_eq_some_iff.1 L.var).1
  have hv := L.var
  have hDl := L.dsk.few
  unfold Wl.rcheckpoint
  cases hd : w.down
  case true =>
    rw [hd] at hv
    refine ⟨h, exFn_of e42 ?_, L, Keep.refl _ _⟩
    rw [fnK, n0, s42]
    simp -implicitDefEqProofs only [↓RK, RK, ↓RB, RB, decide_true, decide_false, STs, Nat.reduceBEq, ↓reduceIte, Nat.reduceLT, ↓R42, R42, rlp_chk, rlpf3, rlld3 hv]
  rw [hd] at hv
  have wg : IntKind.i64.wrap ((w.gen : Int) + 1) = ((w.gen + 1 : Nat) : Int) := by rw [wrap_i64] <;> omega
  have bk := rbounds_ok L.dsk hn (w.gen + 1) (by omega) false (k + 2)
  have htl := toOf_le w.d.lasts.length (w.gen + 1) hn
  have hft : fromOf w.d.lasts.length (w.gen + 1) ≤ toOf w.d.lasts.length (w.gen + 1) := by unfold toOf; omega
  simp only [Bool.false_eq_true, if_false]
  generalize fromOf w.d.lasts.length (w.gen + 1) = F at *
  generalize toOf w.d.lasts.length (w.gen + 1) = T at *
  by_cases q1 : 8192 < b.length
  · have e1 : decide ((8192 : Int) < (b.length : Nat)) = true := decide_eq_true (by omega)
    rw [if_pos q1]
    refine ⟨h, exFn_of e42 ?_, L, Keep.refl _ _⟩
    rw [fnK, n0, s42]
    simp -implicitDefEqProofs only [↓RK, RK, ↓RB, RB, decide_true, decide_false, STs, Nat.reduceBEq, ↓reduceIte, Nat.reduceLT, ↓R42, R42, rlp_chk, rlpf0, rlpf1, rlpf3, rlld0 hv, rlld1 hv, rlld3 hv, bin_add, wg, bk, ext0, ext1, hx.len, bin_gtr, e1]
  have e1 : decide ((8192 : Int) < (b.length : Nat)) = false := decide_eq_false (by omega)
  rw [if_neg q1]
  have wf : IntKind.i64.wrap ((T : Int) - (F : Int)) = (T : Int) - F := by rw [wrap_i64] <;> omega
  by_cases q2 : 2147483647 < w.gen + 1
  · have e2 : decide ((2147483647 : Int) < ((w.gen + 1 : Nat) : Int)) = true := decide_eq_true (by omega)
    rw [if_pos (.inl q2)]
    refine ⟨h, exFn_of e42 ?_, L, Keep.refl _ _⟩
    rw [fnK, n0, s42]
    simp -implicitDefEqProofs only [↓RK, RK, ↓RB, RB, decide_true, decide_false, STs, Nat.reduceBEq, ↓reduceIte, Nat.reduceLT, ↓R42, R42, rlp_chk, rlpf0, rlpf1, rlpf3, rlld0 hv, rlld1 hv, rlld3 hv, bin_add, wg, bk, ext0, ext1, hx.len, bin_gtr, e1, e2]
  have e2 : decide ((2147483647 : Int) < ((w.gen + 1 : Nat) : Int)) = false := decide_eq_false (by omega)
  obtain ⟨ys, h1, s1, a1, k1⟩ := sectors_ok hx (by omega) 0 h (k + 2) (by omega)
  have ln := a1.rw.len
  rw [entryOf_length] at ln
  have D0 := L.dsk.fresh k1
  have hv0 : h1[q]? = some (rlv p w.gen w.pos false) := by rw [k1.2 q (fun hh => Nat.not_le.2 hlt hh)]; exact hv
  have hlt1 := (List.getElem?_eq_some_iff.1 hv0).1
  have kk0 := k1.up up
  have up0 := up.keep kk0
  by_cases q3 : (T : Int) - F < nOf b
  · have e3 : decide ((T : Int) - F < nOf b) = true := decide_eq_true q3
    rw [if_pos (.inr q3)]
    refine ⟨h1, exFn_of e42 ?_, ⟨L.hq, by rw [hd]; exact hv0, D0⟩, kk0⟩
    rw [fnK, n0, s42]
    simp -implicitDefEqProofs only [↓RK, RK, ↓RB, RB, decide_true, decide_false, STs, Nat.reduceBEq, ↓reduceIte, Nat.reduceLT, ↓R42, R42, rlp_chk, rlpf0, rlpf1, rlpf3, rlld0 hv, rlld1 hv, rlld3 hv, bin_add, wg, bk, ext0, ext1, hx.len, bin_gtr, e1, e2, s1, ln, bin_sub, wf, e3]
  have e3 : decide ((T : Int) - F < nOf b) = false := decide_eq_false q3
  rw [if_neg (by rintro (h | h); exact q2 h; exact q3 h)]
  have upd : Up (fun i => S i ∧ i ≠ q) h1 := fun i hi => ⟨up0 i hi, by omega⟩
  obtain ⟨h2, l1, D1, k2⟩ := rclean_ok D0 upd (by omega) hf F T (k + 2) (by omega)
  have sz1 := rclean_sz w.d (F : Int) (T : Int) hDl
  generalize w.d.rclean (F : Int) (T : Int) = C at *
  obtain ⟨ce, cd⟩ := C
  simp only at *
  have up1 := upd.keep k2
  have hv1 : h2[q]? = some (rlv p w.gen w.pos false) := by rw [k2.2 q (fun h => h.2 rfl)]; exact hv0
  have kk1 := kk0.trans (k2.mono (U := S) fun i hi => hi.1)
  by_cases z1 : ce = 0
  case neg =>
    obtain ⟨L3, k3⟩ := Rlk.set (w := ⟨cd, w.gen, w.pos, false⟩) L.hq hv1 D1 w.gen w.pos (decide (ce = 4))
    have c1 : decide (ce = 0) = false := decide_eq_false z1
    rw [if_pos z1]
    refine ⟨_, exFn_of e42 ?_, L3, kk1.trans k3⟩
    rw [fnK, n0, s42]
    simp -implicitDefEqProofs only [↓RK, RK, ↓RB, RB, decide_true, decide_false, STs, Nat.reduceBEq, ↓reduceIte, Nat.reduceLT, ↓R42, R42, rlp_chk, rlpf0, rlpf1, rlpf3, rlld0 hv, rlld0 hv0, rlld1 hv, rlld3 hv, bin_add, wg, bk, ext0, ext1, hx.len, bin_gtr, e1, e2, s1, ln, bin_sub, wf, e3, l1, bin_eql, c1, rlst3 hv1]
  subst z1
  rw [if_neg (by decide)]
  have z0 : decide ((0 : Int) = 0) = true := by decide
  obtain ⟨h3, l2, D2, k3⟩ := rlay_ok D1 up1 (by omega) (by omega) F T ((w.gen + 1 : Nat) : Int) (by omega) hx (by omega) (k + 2) (by omega) (by omega)
  have sz2 := rlay_sz cd (F : Int) (T : Int) ((w.gen + 1 : Nat) : Int) b (by omega)
  generalize cd.rlay (F : Int) (T : Int) ((w.gen + 1 : Nat) : Int) b = R at *
  obtain ⟨⟨nx, le⟩, ld⟩ := R
  simp only at *
  have up2 := up1.keep k3
  have hv2 : h3[q]? = some (rlv p w.gen w.pos false) := by rw [k3.2 q (fun h => h.2 rfl)]; exact hv1
  have kk2 := kk1.trans (k3.mono (U := S) fun i hi => hi.1)
  by_cases z2 : le = 0
  case neg =>
    obtain ⟨L3, k4⟩ := Rlk.set (w := ⟨ld, w.gen, w.pos, false⟩) L.hq hv2 D2 w.gen w.pos (decide (le = 4))
    have c1 : decide (le = 0) = false := decide_eq_false z2
    rw [if_pos z2]
    refine ⟨_, exFn_of e42 ?_, L3, kk2.trans k4⟩
    rw [fnK, n0, s42]
    simp -implicitDefEqProofs only [↓RK, RK, ↓RB, RB, decide_true, decide_false, STs, Nat.reduceBEq, ↓reduceIte, Nat.reduceLT, ↓R42, R42, rlp_chk, rlpf0, rlpf1, rlpf3, rlld0 hv, rlld0 hv0, rlld0 hv1, rlld1 hv, rlld3 hv, bin_add, wg, bk, ext0, ext1, hx.len, bin_gtr, e1, e2, s1, ln, bin_sub, wf, e3, l1, bin_eql, z0, l2, c1, rlst3 hv2]
  subst z2
  rw [if_neg (by decide)]
  unfold Dk.rinstall
  have rm := rem2_i64 (w.gen + 1) (by omega) true
  obtain ⟨xs, h4, s4, b4, k4⟩ := rsuper_ok (w.gen + 1) h3 (k + 2) (by omega)
  have D3 := D2.fresh k4
  have up3 := up2.keep k4
  have hv3 : h4[q]? = some (rlv p w.gen w.pos false) := by rw [k4.2 q (fun hh => Nat.not_le.2 (List.getElem?_eq_some_iff.1 hv2).1 hh)]; exact hv2
  obtain ⟨h5, w1, D4, k5⟩ := rwrite_ok D3 up3 (((w.gen + 1) % 2 : Nat) : Int) (U := fun _ => False) (.inl b4) (fun _ _ h => h.elim) (by omega) (by omega) k
  have wl := rwrite_loose ld (((w.gen + 1) % 2 : Nat) : Int) (pad (superOf (w.gen + 1)))
  have wf' := rwrite_fuse ld (((w.gen + 1) % 2 : Nat) : Int) (pad (superOf (w.gen + 1)))
  generalize ld.rwrite (((w.gen + 1) % 2 : Nat) : Int) (pad (superOf (w.gen + 1))) = W at *
  obtain ⟨we, wd⟩ := W
  simp only at *
  have hv4 : h5[q]? = some (rlv p w.gen w.pos false) := by rw [k5.2 q (fun h => h.2 rfl)]; exact hv3
  have kk3 := (kk2.trans ((k4.up up2).mono (U := S) fun i hi => hi.1)).trans (k5.mono (U := S) fun i hi => hi.1)
  by_cases z3 : we = 0
  case neg =>
    obtain ⟨L3, k6⟩ := Rlk.set (w := ⟨wd, w.gen, w.pos, false⟩) L.hq hv4 D4 w.gen w.pos (decide (we = 4))
    have c1 : decide (we = 0) = false := decide_eq_false z3
    rw [if_pos z3]
    simp only [if_neg z3]
    refine ⟨_, exFn_of e42 ?_, L3, kk3.trans k6⟩
    rw [fnK, n0, s42]
    simp -implicitDefEqProofs only [↓RK, RK, ↓RB, RB, decide_true, decide_false, STs, Nat.reduceBEq, ↓reduceIte, Nat.reduceLT, ↓R42, R42, rlp_chk, rlpf0, rlpf1, rlpf3, rlld0 hv, rlld0 hv0, rlld0 hv1, rlld0 hv2, rlld0 hv3, rdSame_refl, rlld1 hv, rlld3 hv, bin_add, wg, bk, ext0, ext1, hx.len, bin_gtr, e1, e2, s1, ln, bin_sub, wf, e3, l1, bin_eql, z0, l2, rm, s4, w1, c1, rlst3 hv4]
  subst z3
  rw [if_neg (show ¬ ((0 : Int) ≠ 0) by decide)]
  obtain ⟨h6, f1, D5, k6⟩ := rflush_ok D4 (by omega) (by omega) false (k + 2) (by omega)
  generalize wd.rflush = G at *
  obtain ⟨ge, gd⟩ := G
  simp only at *
  have hv5 : h6[q]? = some (rlv p w.gen w.pos false) := by rw [k6.2 q (fun h => h.2 rfl)]; exact hv4
  have kk4 := kk3.trans (k6.mono (U := S) fun i hi => hi.1)
  by_cases z4 : ge = 0
  · subst z4
    obtain ⟨L4, k7⟩ := Rlk.set (w := ⟨gd, w.gen, w.pos, false⟩) L.hq hv5 D5 (w.gen + 1) w.pos false
    obtain ⟨L5, k8⟩ := Rlk.set (w := ⟨gd, w.gen + 1, w.pos, false⟩) L.hq L4.var L4.dsk (w.gen + 1) nx false
    obtain ⟨L6, k9⟩ := Rlk.set (w := ⟨gd, w.gen + 1, nx, false⟩) L.hq L5.var L5.dsk (w.gen + 1) nx (decide ((0 : Int) = 4))
    rw [if_pos rfl]
    refine ⟨_, exFn_of e42 ?_, L6, ((kk4.trans k7).trans k8).trans k9⟩
    rw [fnK, n0, s42]
    simp -implicitDefEqProofs only [↓RK, RK, ↓RB, RB, decide_true, decide_false, STs, Nat.reduceBEq, ↓reduceIte, Nat.reduceLT, ↓R42, R42, rlp_chk, rlpf0, rlpf1, rlpf2, rlpf3, rlld0 hv, rlld0 hv0, rlld0 hv1, rlld0 hv2, rlld0 hv3, rlld0 hv4, rdSame_refl, rlld1 hv, rlld3 hv, bin_add, wg, bk, ext0, ext1, hx.len, bin_gtr, e1, e2, s1, ln, bin_sub, wf, e3, l1, bin_eql, z0, l2, rm, s4, w1, f1, rlst1 hv5, rlst2 L4.var, rlst3 L5.var]
  · obtain ⟨L4, k7⟩ := Rlk.set (w := ⟨gd, w.gen, w.pos, false⟩) L.hq hv5 D5 w.gen w.pos (decide (ge = 4))
    have c1 : decide (ge = 0) = false := decide_eq_false z4
    rw [if_neg z4]
    refine ⟨_, exFn_of e42 ?_, L4, kk4.trans k7⟩
    rw [fnK, n0, s42]
    simp -implicitDefEqProofs only [↓RK, RK, ↓RB, RB, decide_true, decide_false, STs, Nat.reduceBEq, ↓reduceIte, Nat.reduceLT, ↓R42, R42, rlp_chk, rlpf0, rlpf1, rlpf3, rlld0 hv, rlld0 hv0, rlld0 hv1, rlld0 hv2, rlld0 hv3, rlld0 hv4, rdSame_refl, rlld1 hv, rlld3 hv, bin_add, wg, bk, ext0, ext1, hx.len, bin_gtr, e1, e2, s1, ln, bin_sub, wf, e3, l1, bin_eql, z0, l2, rm, s4, w1, f1, c1, rlst3 hv5]
end Go.Ax

namespace Go.Ax
open Go Go.Proofs
theorem pad_pad {b : List UInt8} (h : b.length ≤ 64) : pad (pad b) = pad b := by
  have := pad_length b h
  generalize pad b = c at *
  unfold pad
  rw [this]
  simp
theorem rwrite_pad {v : Dk} {a : Int} {b : List UInt8} (h : b.length ≤ 64) : v.rwrite a (pad b) = v.rwrite a b := by
  have h1 := pad_length b h
  unfold Dk.rwrite
  rw [pad_pad h, h1]
  have e : (¬ v.has a ∨ 64 < 64) ↔ (¬ v.has a ∨ 64 < b.length) := by
    constructor
    · rintro (x | x)
      · exact .inl x
      · omega
    · rintro (x | x)
      · exact .inl x
      · omega
  by_cases q : ¬ v.has a ∨ 64 < b.length
  · rw [if_pos q, if_pos (e.2 q)]
  · rw [if_neg q, if_neg (fun x => q (e.1 x))]
theorem DkEq.layLoop {at' : Int} {b : List UInt8} : ∀ (m i : Nat) {d v : Dk}, DkEq d v → (layLoop at' b m i d).1 = (rlayLoop at' b m i v).1 ∧ DkEq (layLoop at' b m i d).2 (rlayLoop at' b m i v).2 := by
  intro m
  induction m with
  | zero => intro i d v e; exact ⟨rfl, e⟩
  | succ m ih =>
    intro i d v e
    obtain ⟨w1, w2⟩ := e.write (at' + i) (chunk b i)
    rw [← rwrite_pad (chunk_length b i)] at w1 w2
    by_cases h : (d.write (at' + i) (chunk b i)).1 = 0
    · rw [layLoop_go h, rlayLoop_go (by rw [← w1]; exact h)]
      exact ih (i + 1) w2
    · rw [layLoop_no h, rlayLoop_no (by rw [← w1]; exact h)]
      exact ⟨w1, w2⟩
theorem DkEq.lay {d v : Dk} (e : DkEq d v) (at' en gen : Int) (b : List UInt8) : (d.lay at' en gen b).1 = (v.rlay at' en gen b).1 ∧ DkEq (d.lay at' en gen b).2 (v.rlay at' en gen b).2 := by
  have hn := nOf_eq b
  have hp := nOf_pos' b
  unfold Dk.rlay
  rw [← e.lasts]
  by_cases q1 : 8192 < b.length ∨ gen < 0 ∨ 2147483647 < gen ∨ at' < 0
  · rw [lay_arg q1, if_pos q1]; exact ⟨rfl, e⟩
  rw [if_neg q1]
  by_cases q2 : en < at' ∨ min en d.lasts.length - at' < sizeOf b.length
  · rw [lay_full q1 q2, if_pos (by omega)]; exact ⟨rfl, e⟩
  rw [if_neg (by omega), lay_go q1 q2 rfl, ← hn, show ((nOf b : Nat) : Int).toNat = nOf b by omega]
  obtain ⟨l1, l2⟩ := DkEq.layLoop (at' := at') (b := b) (nOf b - 1) 1 e
  generalize Go.Ax.layLoop at' b (nOf b - 1) 1 d = L at *
  generalize rlayLoop at' b (nOf b - 1) 1 v = R at *
  obtain ⟨le, ld⟩ := L
  obtain ⟨re, rd⟩ := R
  simp only at l1 l2 ⊢
  subst l1
  by_cases z1 : le = 0
  case neg => rw [if_pos z1, if_pos z1]; exact ⟨rfl, l2⟩
  have n_z1 : ¬ (_ ≠ (0 : Int)) := fun h => h z1; rw [if_neg n_z1, if_neg n_z1]
  obtain ⟨f1, f2⟩ := l2.flush
  generalize ld.flush = F at *
  generalize rd.rflush = G at *
  obtain ⟨fe, fd⟩ := F
  obtain ⟨ge, gd⟩ := G
  simp only at f1 f2 ⊢
  subst f1
  by_cases z2 : fe = 0
  case neg => rw [if_pos z2, if_pos z2]; exact ⟨rfl, f2⟩
  have n_z2 : ¬ (_ ≠ (0 : Int)) := fun h => h z2; rw [if_neg n_z2, if_neg n_z2]
  obtain ⟨w1, w2⟩ := f2.write at' (head16 (BitVec.ofInt 32 gen) b)
  rw [← rwrite_pad (by rw [head16_length]; omega)] at w1 w2
  generalize fd.write at' (head16 (BitVec.ofInt 32 gen) b) = W at *
  generalize gd.rwrite at' (pad (head16 (BitVec.ofInt 32 gen) b)) = X at *
  obtain ⟨we, wd⟩ := W
  obtain ⟨xe, xd⟩ := X
  simp only at w1 w2 ⊢
  subst w1
  by_cases z3 : we = 0
  case neg => rw [if_pos z3, if_pos z3]; exact ⟨rfl, w2⟩
  have n_z3 : ¬ (_ ≠ (0 : Int)) := fun h => h z3; rw [if_neg n_z3, if_neg n_z3]
  obtain ⟨y1, y2⟩ := w2.flush
  generalize wd.flush = Y at *
  generalize xd.rflush = Z at *
  obtain ⟨ye, yd⟩ := Y
  obtain ⟨ze, zd⟩ := Z
  simp only at y1 y2 ⊢
  subst y1
  by_cases z4 : ye = 0
  case neg => rw [if_pos z4, if_pos z4]; exact ⟨rfl, y2⟩
  have n_z4 : ¬ (_ ≠ (0 : Int)) := fun h => h z4; rw [if_neg n_z4, if_neg n_z4]
  exact ⟨rfl, y2⟩
theorem DkEq.install {d v : Dk} (e : DkEq d v) (gen : Nat) : (d.install gen).1 = (v.rinstall gen).1 ∧ DkEq (d.install gen).2 (v.rinstall gen).2 := by
  obtain ⟨w1, w2⟩ := e.write ((gen % 2 : Nat) : Int) (superOf gen)
  rw [← rwrite_pad (by rw [superOf_length]; omega)] at w1 w2
  unfold Dk.install Dk.rinstall
  generalize d.write ((gen % 2 : Nat) : Int) (superOf gen) = W at *
  generalize v.rwrite ((gen % 2 : Nat) : Int) (pad (superOf gen)) = X at *
  obtain ⟨we, wd⟩ := W
  obtain ⟨xe, xd⟩ := X
  simp only at w1 w2 ⊢
  subst w1
  by_cases z : we = 0
  · have n_z : ¬ (_ ≠ (0 : Int)) := fun h => h z; rw [if_neg n_z, if_neg n_z]; exact w2.flush
  · rw [if_pos z, if_pos z]; exact ⟨rfl, w2⟩
theorem DkEq.format {d v : Dk} (e : DkEq d v) : d.format.1 = v.rformat.1 ∧ DkEq d.format.2 v.rformat.2 := by
  unfold Dk.format Dk.rformat
  rw [← e.lasts]
  obtain ⟨c1, c2⟩ := e.clean (fromOf d.lasts.length 1 : Nat) (toOf d.lasts.length 1 : Nat)
  generalize d.clean (fromOf d.lasts.length 1 : Nat) (toOf d.lasts.length 1 : Nat) = C at *
  generalize v.rclean (fromOf d.lasts.length 1 : Nat) (toOf d.lasts.length 1 : Nat) = X at *
  obtain ⟨ce, cd⟩ := C
  obtain ⟨xe, xd⟩ := X
  simp only at c1 c2 ⊢
  subst c1
  by_cases z : ce = 0
  · have n_z : ¬ (_ ≠ (0 : Int)) := fun h => h z; rw [if_neg n_z, if_neg n_z]; exact c2.install 1
  · rw [if_pos z, if_pos z]; exact ⟨rfl, c2⟩
structure WlEq (w v : Wl) : Prop where
  d : DkEq w.d v.d
  gen : w.gen = v.gen
  pos : w.pos = v.pos
  down : w.down = v.down
theorem DkEq.open {d v : Dk} (e : DkEq d v) : d.wopen.1 = v.ropen.1 ∧ d.wopen.2.2 = v.ropen.2.2 ∧ WlEq d.wopen.2.1 v.ropen.2.1 := by
  unfold Dk.wopen Dk.ropen
  rw [← e.now, ← e.lasts]
  by_cases q : newest d.now = 0
  · simp only [if_pos q]
    obtain ⟨f1, f2⟩ := e.format
    generalize d.format = F at *
    generalize v.rformat = G at *
    obtain ⟨fe, fd⟩ := F
    obtain ⟨ge, gd⟩ := G
    simp only at f1 f2 ⊢
    subst f1
    by_cases z : fe = 0
    case neg => rw [if_pos z, if_pos z]; exact ⟨rfl, rfl, f2, rfl, rfl, rfl⟩
    have n_z : ¬ (_ ≠ (0 : Int)) := fun h => h z; rw [if_neg n_z, if_neg n_z, ← f2.scan]
    obtain ⟨c1, c2⟩ := f2.clean (fd.scan (fromOf d.lasts.length 1 : Nat) (toOf d.lasts.length 1 : Nat) ((1 : Nat) : Int)).2 (toOf d.lasts.length 1 : Nat)
    generalize fd.scan (fromOf d.lasts.length 1 : Nat) (toOf d.lasts.length 1 : Nat) ((1 : Nat) : Int) = sc at *
    generalize fd.clean sc.2 (toOf d.lasts.length 1 : Nat) = C at *
    generalize gd.rclean sc.2 (toOf d.lasts.length 1 : Nat) = X at *
    obtain ⟨ce, cd⟩ := C
    obtain ⟨xe, xd⟩ := X
    simp only at c1 c2 ⊢
    subst c1
    by_cases y : ce = 0
    · have n_y : ¬ (_ ≠ (0 : Int)) := fun h => h y; rw [if_neg n_y, if_neg n_y]; exact ⟨rfl, rfl, c2, rfl, rfl, rfl⟩
    · rw [if_pos y, if_pos y]; exact ⟨rfl, rfl, c2, rfl, rfl, rfl⟩
  · simp only [if_neg q, ne_eq, not_true_eq_false, if_false]
    rw [← e.scan]
    obtain ⟨c1, c2⟩ := e.clean (d.scan (fromOf d.lasts.length (newest d.now) : Nat) (toOf d.lasts.length (newest d.now) : Nat) (newest d.now : Nat)).2 (toOf d.lasts.length (newest d.now) : Nat)
    generalize d.scan (fromOf d.lasts.length (newest d.now) : Nat) (toOf d.lasts.length (newest d.now) : Nat) (newest d.now : Nat) = sc at *
    generalize d.clean sc.2 (toOf d.lasts.length (newest d.now) : Nat) = C at *
    generalize v.rclean sc.2 (toOf d.lasts.length (newest d.now) : Nat) = X at *
    obtain ⟨ce, cd⟩ := C
    obtain ⟨xe, xd⟩ := X
    simp only at c1 c2 ⊢
    subst c1
    by_cases y : ce = 0
    · have n_y : ¬ (_ ≠ (0 : Int)) := fun h => h y; rw [if_neg n_y, if_neg n_y]; exact ⟨rfl, rfl, c2, rfl, rfl, rfl⟩
    · rw [if_pos y, if_pos y]; exact ⟨rfl, rfl, c2, rfl, rfl, rfl⟩
theorem WlEq.append {w v : Wl} (e : WlEq w v) (b : List UInt8) : (w.append b).1 = (v.rappend b).1 ∧ WlEq (w.append b).2 (v.rappend b).2 := by
  obtain ⟨d, gen, pos, down⟩ := w
  obtain ⟨d', gen', pos', down'⟩ := v
  obtain ⟨e1, e2, e3, e4⟩ := e
  simp only at e1 e2 e3 e4
  subst e2 e3 e4
  unfold Wl.append Wl.rappend
  cases down
  case true => exact ⟨rfl, e1, rfl, rfl, rfl⟩
  simp only [Bool.false_eq_true, if_false]
  rw [← e1.lasts]
  obtain ⟨l1, l2⟩ := e1.lay pos (toOf d.lasts.length gen : Nat) gen b
  rw [← l1]
  exact ⟨rfl, l2, rfl, rfl, rfl⟩
theorem WlEq.checkpoint {w v : Wl} (e : WlEq w v) (b : List UInt8) : (w.checkpoint b).1 = (v.rcheckpoint b).1 ∧ WlEq (w.checkpoint b).2 (v.rcheckpoint b).2 := by
  obtain ⟨d, gen, pos, down⟩ := w
  obtain ⟨d', gen', pos', down'⟩ := v
  obtain ⟨e1, e2, e3, e4⟩ := e
  simp only at e1 e2 e3 e4
  subst e2 e3 e4
  unfold Wl.checkpoint Wl.rcheckpoint
  cases down
  case true => exact ⟨rfl, e1, rfl, rfl, rfl⟩
  simp only [Bool.false_eq_true, if_false]
  rw [← e1.lasts, nOf_eq b]
  by_cases q1 : 8192 < b.length
  · rw [if_pos q1, if_pos q1]; exact ⟨rfl, e1, rfl, rfl, rfl⟩
  rw [if_neg q1, if_neg q1]
  generalize fromOf d.lasts.length (gen + 1) = F
  generalize toOf d.lasts.length (gen + 1) = T
  by_cases q2 : 2147483647 < gen + 1 ∨ (T : Int) - F < sizeOf b.length
  · rw [if_pos q2, if_pos q2]; exact ⟨rfl, e1, rfl, rfl, rfl⟩
  rw [if_neg q2, if_neg q2]
  obtain ⟨c1, c2⟩ := e1.clean F T
  generalize d.clean F T = C at *
  generalize d'.rclean F T = X at *
  obtain ⟨ce, cd⟩ := C
  obtain ⟨xe, xd⟩ := X
  simp only at c1 c2 ⊢
  subst c1
  by_cases z1 : ce = 0
  case neg => rw [if_pos z1, if_pos z1]; exact ⟨rfl, c2, rfl, rfl, rfl⟩
  have n_z1 : ¬ (_ ≠ (0 : Int)) := fun h => h z1; rw [if_neg n_z1, if_neg n_z1]
  obtain ⟨l1, l2⟩ := c2.lay F T ((gen + 1 : Nat) : Int) b
  generalize cd.lay F T ((gen + 1 : Nat) : Int) b = L at *
  generalize xd.rlay F T ((gen + 1 : Nat) : Int) b = R at *
  obtain ⟨le, ld⟩ := L
  obtain ⟨re, rd⟩ := R
  simp only at l1 l2 ⊢
  subst l1
  by_cases z2 : le.2 = 0
  case neg => rw [if_pos z2, if_pos z2]; exact ⟨rfl, l2, rfl, rfl, rfl⟩
  have n_z2 : ¬ (_ ≠ (0 : Int)) := fun h => h z2; rw [if_neg n_z2, if_neg n_z2]
  obtain ⟨i1, i2⟩ := l2.install (gen + 1)
  generalize ld.install (gen + 1) = I at *
  generalize rd.rinstall (gen + 1) = J at *
  obtain ⟨ie, id⟩ := I
  obtain ⟨je, jd⟩ := J
  simp only at i1 i2 ⊢
  subst i1
  by_cases z3 : ie = 0
  · rw [if_pos z3, if_pos z3]; exact ⟨rfl, i2, rfl, rfl, rfl⟩
  · rw [if_neg z3, if_neg z3]; exact ⟨rfl, i2, rfl, rfl, rfl⟩
theorem rformat_sz (d : Dk) (hl : d.lasts.length ≤ 1024) : d.rformat.2.fuse ≤ d.fuse ∧ d.rformat.2.lasts.length = d.lasts.length := by
  unfold Dk.rformat
  have h1 := rclean_sz d (fromOf d.lasts.length 1 : Nat) (toOf d.lasts.length 1 : Nat) hl
  simp only
  split
  · omega
  · have h2 := rinstall_sz (d.rclean (fromOf d.lasts.length 1 : Nat) (toOf d.lasts.length 1 : Nat)).2 1
    omega
theorem ropen_fuse (d : Dk) (hl : d.lasts.length ≤ 1024) : d.ropen.2.1.d.fuse ≤ d.fuse := by
  have h0 := rformat_sz d hl
  unfold Dk.ropen
  by_cases q : newest d.now = 0
  · simp only [if_pos q]
    split
    · exact h0.1
    · have h1 := rclean_sz d.rformat.2 (d.rformat.2.scan (fromOf d.lasts.length 1 : Nat) (toOf d.lasts.length 1 : Nat) ((1 : Nat) : Int)).2 (toOf d.lasts.length 1 : Nat) (by omega)
      split <;> (simp only; omega)
  · simp only [if_neg q, ne_eq, not_true_eq_false, if_false]
    have h1 := rclean_sz d (d.scan (fromOf d.lasts.length (newest d.now) : Nat) (toOf d.lasts.length (newest d.now) : Nat) (newest d.now : Nat)).2 (toOf d.lasts.length (newest d.now) : Nat) hl
    split <;> (simp only; omega)
theorem rappend_fuse (w : Wl) (b : List UInt8) (hl : w.d.lasts.length ≤ 1024) : (w.rappend b).2.d.fuse ≤ w.d.fuse := by
  unfold Wl.rappend
  split
  · exact Int.le_refl _
  · exact (rlay_sz w.d w.pos (toOf w.d.lasts.length w.gen : Nat) w.gen b hl).2.1
theorem rcheckpoint_fuse (w : Wl) (b : List UInt8) (hl : w.d.lasts.length ≤ 1024) : (w.rcheckpoint b).2.d.fuse ≤ w.d.fuse := by
  unfold Wl.rcheckpoint
  split
  · exact Int.le_refl _
  simp only
  split
  · exact Int.le_refl _
  split
  · exact Int.le_refl _
  have h1 := rclean_sz w.d (fromOf w.d.lasts.length (w.gen + 1) : Nat) (toOf w.d.lasts.length (w.gen + 1) : Nat) hl
  generalize w.d.rclean (fromOf w.d.lasts.length (w.gen + 1) : Nat) (toOf w.d.lasts.length (w.gen + 1) : Nat) = C at *
  split
  · simp only; omega
  have h2 := rlay_sz C.2 (fromOf w.d.lasts.length (w.gen + 1) : Nat) (toOf w.d.lasts.length (w.gen + 1) : Nat) ((w.gen + 1 : Nat) : Int) b (by omega)
  generalize C.2.rlay (fromOf w.d.lasts.length (w.gen + 1) : Nat) (toOf w.d.lasts.length (w.gen + 1) : Nat) ((w.gen + 1 : Nat) : Int) b = R at *
  split
  · simp only; omega
  have h3 := rinstall_sz R.2 (w.gen + 1)
  split <;> (simp only; omega)
end Go.Ax

namespace Go.Ax
open Go Go.Proofs
abbrev zs : List UInt8 := List.replicate 64 0
inductive Ents (l : List (List UInt8)) (gen : Nat) : Nat → List (List UInt8) → Nat → Prop
  | nil {a} : Ents l gen a [] a
  | cons {a b es pos} : b.length ≤ 8192 → (∀ i, i < nOf b → l[a + i]? = (entryOf gen b)[i]?) → Ents l gen (a + nOf b) es pos → Ents l gen a (b :: es) pos
theorem nOf_pos (b : List UInt8) : 1 ≤ nOf b := by have := nOf_eq' b; omega
theorem Ents.le {l : List (List UInt8)} {gen a pos : Nat} {es : List (List UInt8)} (h : Ents l gen a es pos) : a + es.length ≤ pos := by
  induction h with
  | nil => simp
  | @cons a b es pos _ _ _ ih => have := nOf_pos b; simp only [List.length_cons]; omega
theorem Ents.congr {l l' : List (List UInt8)} {gen a pos : Nat} {es : List (List UInt8)} (h : Ents l gen a es pos) (hl : ∀ i, a ≤ i → i < pos → l'[i]? = l[i]?) : Ents l' gen a es pos := by
  induction h with
  | nil => exact .nil
  | @cons a b es pos h1 h2 h3 ih =>
    have hp := nOf_pos b
    have hle := h3.le
    exact .cons h1 (fun i hi => by rw [hl (a + i) (by omega) (by omega)]; exact h2 i hi) (ih fun i h4 h5 => hl i (by omega) h5)
theorem Ents.snoc {l : List (List UInt8)} {gen a pos : Nat} {es : List (List UInt8)} (h : Ents l gen a es pos) {b : List UInt8} (hb : b.length ≤ 8192) (hl : ∀ i, i < nOf b → l[pos + i]? = (entryOf gen b)[i]?) : Ents l gen a (es ++ [b]) (pos + nOf b) := by
  induction h with
  | nil => exact .cons hb hl .nil
  | cons h1 h2 _ ih => exact .cons h1 h2 (ih hl)
theorem Ents.scan {l : List (List UInt8)} {gen a pos : Nat} {es : List (List UInt8)} (h : Ents l gen a es pos) {e : Int} (he : (pos : Int) ≤ e) (hl : pos ≤ l.length) (hz : oneOf l pos e gen = none) :
    ∀ f, l.length + 1 - a ≤ f → 0 < f → scanOf l e gen f a = (es, (pos : Int)) := by
  induction h with
  | nil =>
    intro f _ hf
    obtain ⟨f, rfl⟩ : ∃ j, f = j + 1 := ⟨f - 1, by omega⟩
    exact scanOf_none hz
  | @cons a b es pos h1 h2 h3 ih =>
    intro f hf hf0
    obtain ⟨f, rfl⟩ : ∃ j, f = j + 1 := ⟨f - 1, by omega⟩
    have hp := nOf_pos b
    have hle := h3.le
    have hn1 := nOf_eq b
    have h0 := h2 0 (by omega)
    rw [Nat.add_zero] at h0
    have ho : oneOf l a e gen = some b := one_at l a e gen b h1 (by rw [h0, entryOf_head]) (by omega) (by omega) fun j j1 j2 => by rw [h2 j j2]; exact entryOf_get _ _ _ j1 j2
    rw [scanOf_some ho, ← hn1, show ((a : Int) + (nOf b : Nat)) = ((a + nOf b : Nat) : Int) by omega, ih he hl hz f (by omega) (by omega)]
theorem Ents.scan_blank {l : List (List UInt8)} {gen a pos e : Nat} {es : List (List UInt8)} (h : Ents l gen a es pos) (he : pos ≤ e) (hl : e ≤ l.length) (hz : pos < e → l[pos]? = some zs) :
    scanOf l e gen (l.length + 1) a = (es, (pos : Int)) := by
  refine h.scan (by omega) (by omega) ?_ _ (by omega) (by omega)
  by_cases q : pos < e
  · exact one_blank l pos e gen (hz q)
  · by_cases q2 : pos < l.length
    · exact oneOf_head (List.getElem?_eq_getElem q2) (.inl (by omega))
    · exact oneOf_out (by omega)
theorem pad_super (g : Nat) : pad (superOf g) = be4 (BitVec.ofNat 32 g) ++ (be4 (crc (be4 (BitVec.ofNat 32 g))) ++ List.replicate 56 0) := by
  unfold pad; rw [superOf_length]; simp [superOf]
theorem superGen_eq {c : List UInt8} {n g : Nat} (h : (get4 c).toNat = g) : superGen c n = if (1 ≤ g ∧ g ≤ 2147483647 ∧ g % 2 = n) ∧ superOf g = c.take 8 ∧ (c.drop 8).all (· == 0) = true then g else 0 := by subst h; rfl
theorem super_gen (g : Nat) (h1 : 1 ≤ g) (h2 : g ≤ 2147483647) : superGen (pad (superOf g)) (g % 2) = g := by
  have e0 : get4 (pad (superOf g)) = BitVec.ofNat 32 g := by rw [pad_super, get4_be4]
  have e1 : (BitVec.ofNat 32 g).toNat = g := by simp; omega
  have e2 : (pad (superOf g)).take 8 = superOf g := by rw [pad_super]; rfl
  have e3 : (pad (superOf g)).drop 8 = List.replicate 56 0 := by rw [pad_super]; rfl
  rw [superGen_eq (g := g) (by rw [e0, e1]), e2, e3, if_pos ⟨⟨h1, h2, rfl⟩, rfl, all_zero _⟩]
theorem super_mod (c : List UInt8) (n : Nat) : superGen c n = 0 ∨ superGen c n % 2 = n := by
  unfold superGen
  simp only
  split
  · rename_i h; exact .inr h.1.2.2
  · exact .inl rfl
theorem super_blank (n : Nat) : superGen zs n = 0 := by
  have e0 : get4 zs = 0#32 := by decide
  rw [superGen_eq (g := 0) (by rw [e0]; rfl), if_neg (by omega)]
theorem newest_slot {l : List (List UInt8)} {gen : Nat} (h : newest l = gen) (h1 : 1 ≤ gen) : superGen ((l[gen % 2]?).getD []) (gen % 2) = gen ∧ superGen ((l[(gen + 1) % 2]?).getD []) ((gen + 1) % 2) ≤ gen := by
  unfold newest at h
  have m0 := super_mod ((l[0]?).getD []) 0
  have m1 := super_mod ((l[1]?).getD []) 1
  rcases mod2_cases gen with hm | hm
  · rw [hm, show (gen + 1) % 2 = 1 by omega]; omega
  · rw [hm, show (gen + 1) % 2 = 0 by omega]; omega
theorem newest_of {l : List (List UInt8)} {gen : Nat} (h : superGen ((l[gen % 2]?).getD []) (gen % 2) = gen) (h2 : superGen ((l[(gen + 1) % 2]?).getD []) ((gen + 1) % 2) ≤ gen) : newest l = gen := by
  unfold newest
  rcases mod2_cases gen with hm | hm
  · rw [hm] at h; rw [show (gen + 1) % 2 = 1 by omega] at h2; omega
  · rw [hm] at h; rw [show (gen + 1) % 2 = 0 by omega] at h2; omega
theorem newest_congr {l l' : List (List UInt8)} (h0 : l'[0]? = l[0]?) (h1 : l'[1]? = l[1]?) : newest l' = newest l := by unfold newest; rw [h0, h1]
structure Log (l : List (List UInt8)) (gen : Nat) (es : List (List UInt8)) (pos : Nat) : Prop where
  lo : 4 ≤ l.length
  hi : l.length ≤ 1024
  cells : ∀ b ∈ l, b.length = 64
  g1 : 1 ≤ gen
  g2 : gen ≤ 2147483647
  new : newest l = gen
  ents : Ents l gen (fromOf l.length gen) es pos
  le : pos ≤ toOf l.length gen
  rest : ∀ i, pos ≤ i → i < toOf l.length gen → l[i]? = some zs
theorem from_ge (n gen : Nat) : 2 ≤ fromOf n gen := by unfold fromOf; omega
theorem cleanLoop_none {d : Dk} : ∀ (m i : Nat) (s : Bool), (∀ j, i ≤ j → j < i + m → d.now[j]? = some zs) → cleanLoop m i s d = (0, s, d) := by
  intro m
  induction m with
  | zero => intro i s _; rfl
  | succ m ih =>
    intro i s h
    rw [cleanLoop_blank (by rw [h i (Nat.le_refl _) (by omega)]; exact all_zero 64)]
    exact ih (i + 1) s fun j h1 h2 => h j (by omega) (by omega)
theorem clean_none {d : Dk} {a e : Nat} (he : e ≤ d.lasts.length) (h : ∀ j, a ≤ j → j < e → d.now[j]? = some zs) : d.clean a e = (0, d) := by
  unfold Dk.clean
  have e1 : (max (a : Int) 0).toNat = a := by omega
  have e2 : (min (e : Int) d.lasts.length - max (a : Int) 0).toNat = e - a := by omega
  rw [e1, e2, cleanLoop_none _ _ _ fun j h1 h2 => h j h1 (by omega)]
  rfl
theorem Log.open {l : List (List UInt8)} {gen pos : Nat} {es : List (List UInt8)} (L : Log l gen es pos) : (Calm l).wopen = (0, ⟨Calm l, gen, pos, false⟩, es) := by
  have h1 := L.lo
  have hto := toOf_le l.length gen (by omega)
  have hg := L.g1
  unfold Dk.wopen
  have hn : newest (Calm l).now = gen := L.new
  have hsc : (Calm l).scan (fromOf l.length gen : Nat) (toOf l.length gen : Nat) gen = (es, (pos : Int)) := L.ents.scan_blank L.le hto fun hp => L.rest pos (Nat.le_refl _) hp
  have hcl : (Calm l).clean (pos : Int) (toOf l.length gen : Nat) = (0, Calm l) := clean_none hto fun j j1 j2 => L.rest j j1 j2
  rw [hn]
  simp only [show ¬ gen = 0 by omega, if_false, ne_eq, not_true_eq_false, show (Calm l).lasts.length = l.length from rfl, hsc, hcl]
theorem laid_entry (l : List (List UInt8)) (a : Nat) (gen : Int) (b : List UInt8) (h : a + nOf b ≤ l.length) (i : Nat) (hi : i < nOf b) : (laid l a gen b)[a + i]? = (entryOf gen b)[i]? := by
  have hp := nOf_pos b
  by_cases h0 : i = 0
  · subst h0; rw [Nat.add_zero, laid_head _ _ _ _ (by omega), entryOf_head]
  · rw [laid_get l a gen b h (a + i) (by omega), if_pos (by omega), entryOf_get _ _ _ (by omega) hi]
    congr 3; omega
theorem laid_other (l : List (List UInt8)) (a : Nat) (gen : Int) (b : List UInt8) (h : a + nOf b ≤ l.length) (i : Nat) (hi : i < a ∨ a + nOf b ≤ i) : (laid l a gen b)[i]? = l[i]? := by
  have hp := nOf_pos b
  rw [laid_get l a gen b h i (by omega), if_neg (by omega)]
theorem laid_cells {l : List (List UInt8)} (hc : ∀ b ∈ l, b.length = 64) (a : Nat) (gen : Int) (b : List UInt8) : ∀ c ∈ laid l a gen b, c.length = 64 := by
  refine land_cells _ _ hc fun w hw => ?_
  rcases List.mem_append.1 hw with hw | hw
  · simp only [parts, List.mem_map] at hw
    obtain ⟨j, -, rfl⟩ := hw
    exact pad_length _ (chunk_length _ _)
  · rw [List.mem_singleton] at hw
    subst hw
    exact pad_length _ (by rw [head16_length]; omega)
theorem Log.append {l : List (List UInt8)} {gen pos : Nat} {es : List (List UInt8)} (L : Log l gen es pos) {b : List UInt8} (hb : b.length ≤ 8192) (hf : pos + nOf b ≤ toOf l.length gen) :
    (Wl.mk (Calm l) gen pos false).append b = (0, ⟨Calm (laid l pos gen b), gen, ((pos + nOf b : Nat) : Int), false⟩) ∧ Log (laid l pos gen b) gen (es ++ [b]) (pos + nOf b) := by
  have h1 := L.lo
  have hto := toOf_le l.length gen (by omega)
  have hg2 := L.g2
  have hn := nOf_eq b
  have hle := L.ents.le
  have hfr := from_ge l.length gen
  have hl : (Calm l).lay (pos : Int) (toOf l.length gen : Nat) gen b = ((((pos + nOf b : Nat) : Int), 0), Calm (laid l pos gen b)) :=
    lay_calm l pos (toOf l.length gen : Nat) gen b hb (by omega) (by omega) (by omega) (by omega)
  constructor
  · unfold Wl.append
    simp only [Bool.false_eq_true, if_false]
    rw [show (Calm l).lasts.length = l.length from rfl, hl]
    rfl
  · have hlen : (laid l pos gen b).length = l.length := laid_length _ _ _ _
    have ho := laid_other l pos gen b (by omega)
    refine ⟨by omega, by have := L.hi; omega, laid_cells L.cells _ _ _, L.g1, L.g2, ?_, ?_, by rw [hlen]; exact hf, fun i i1 i2 => ?_⟩
    · exact (newest_congr (ho 0 (.inl (by omega))) (ho 1 (.inl (by omega)))).trans L.new
    · rw [hlen]
      exact (L.ents.congr fun i _ i2 => ho i (.inl i2)).snoc hb fun i hi => laid_entry l pos gen b (by omega) i hi
    · rw [hlen] at i2
      rw [ho i (.inr i1)]
      exact L.rest i (by omega) i2
def wiped (l : List (List UInt8)) (a e : Nat) : List (List UInt8) := (List.range l.length).map fun i => if a ≤ i ∧ i < e then zs else (l[i]?).getD []
theorem wiped_length (l : List (List UInt8)) (a e : Nat) : (wiped l a e).length = l.length := by simp [wiped]
theorem wiped_in {l : List (List UInt8)} {a e i : Nat} (h1 : a ≤ i) (h2 : i < e) (h3 : i < l.length) : (wiped l a e)[i]? = some zs := by simp [wiped, h1, h2, h3]
theorem wiped_out {l : List (List UInt8)} {a e i : Nat} (h : ¬ (a ≤ i ∧ i < e)) : (wiped l a e)[i]? = l[i]? := by
  by_cases h3 : i < l.length
  · simp [wiped, h, h3]
  · rw [List.getElem?_eq_none (by rw [wiped_length]; omega), List.getElem?_eq_none (by omega)]
theorem clean_calm_loop (l : List (List UInt8)) (hc : ∀ b ∈ l, b.length = 64) : ∀ (m i : Nat) (s : Bool) (ws : List (Nat × List UInt8)), (∀ w ∈ ws, w.2.length = 64) → i + m ≤ l.length → ∃ s' ws', cleanLoop m i s ⟨l, ws, -1, false⟩ = (0, s', ⟨l, ws', -1, false⟩) ∧
    (∀ j, (land l ws')[j]? = if i ≤ j ∧ j < i + m then some zs else (land l ws)[j]?) ∧ (s' = false → s = false ∧ ws' = ws) := by
  intro m
  induction m with
  | zero => intro i s ws _ _; exact ⟨s, ws, rfl, fun j => by rw [if_neg (by omega)], fun h => ⟨h, rfl⟩⟩
  | succ m ih =>
    intro i s ws hw h
    have hnow : (Dk.mk l ws (-1) false).now = land l ws := rfl
    have hlt : i < (land l ws).length := by rw [land_length]; omega
    have hget : (land l ws)[i]? = some (land l ws)[i] := List.getElem?_eq_getElem hlt
    have h64 := land_cells _ _ hc hw _ (List.getElem_mem hlt)
    cases hz : (((land l ws)[i]?).getD []).all (· == 0)
    · have w := calm_write l ws i [] (by omega) (by simp)
      obtain ⟨s', ws', h1, h2, h3⟩ := ih (i + 1) true (ws ++ [(i, pad [])]) (fun w hm => by
        rcases List.mem_append.1 hm with hm | hm
        · exact hw w hm
        · rw [List.mem_singleton] at hm; subst hm; exact pad_length _ (by simp)) (by omega)
      refine ⟨s', ws', ?_, fun j => ?_, fun h => by have := (h3 h).1; cases this⟩
      · rw [cleanLoop_go hz (by rw [w]), w]; exact h1
      · rw [h2, land_snoc]
        by_cases hj : i = j
        · subst hj
          rw [if_neg (by omega), if_pos (by omega), List.getElem?_set_self hlt]
          rfl
        · rw [List.getElem?_set_ne hj]
          by_cases hj2 : i + 1 ≤ j ∧ j < i + 1 + m
          · rw [if_pos hj2, if_pos (by omega)]
          · rw [if_neg hj2, if_neg (by omega)]
    · obtain ⟨s', ws', h1, h2, h3⟩ := ih (i + 1) s ws hw (by omega)
      refine ⟨s', ws', ?_, fun j => ?_, h3⟩
      · rw [cleanLoop_blank hz]; exact h1
      · rw [h2]
        by_cases hj : i = j
        · subst hj
          rw [if_neg (by omega), if_pos (by omega), hget]
          rw [hget] at hz
          simp only [Option.getD_some] at hz
          rw [(blank_iff h64).2 hz]
        · by_cases hj2 : i + 1 ≤ j ∧ j < i + 1 + m
          · rw [if_pos hj2, if_pos (by omega)]
          · rw [if_neg hj2, if_neg (by omega)]
theorem clean_calm {l : List (List UInt8)} (hc : ∀ b ∈ l, b.length = 64) {a e : Nat} (he : e ≤ l.length) : (Calm l).clean a e = (0, Calm (wiped l a e)) := by
  unfold Dk.clean
  have e1 : (max (a : Int) 0).toNat = a := by omega
  have e2 : (min (e : Int) (Calm l).lasts.length - max (a : Int) 0).toNat = e - a := by show (min (e : Int) (l.length : Nat) - max (a : Int) 0).toNat = e - a; omega
  rw [e1, e2]
  by_cases hae : a ≤ e
  case neg =>
    rw [show e - a = 0 by omega, cleanLoop_zero]
    have : wiped l a e = l := by
      apply List.ext_getElem?
      intro i
      rw [wiped_out (by omega)]
    rw [this]
    rfl
  obtain ⟨s', ws', h1, h2, h3⟩ := clean_calm_loop l hc (e - a) a false [] (by simp) (by omega)
  rw [show Calm l = ⟨l, [], -1, false⟩ from rfl, h1]
  have hw : land l ws' = wiped l a e := by
    apply List.ext_getElem?
    intro j
    rw [h2]
    by_cases hj : a ≤ j ∧ j < e
    · rw [if_pos (by omega), wiped_in hj.1 hj.2 (by omega)]
    · rw [if_neg (by omega), wiped_out hj]
      rfl
  cases s'
  · obtain ⟨-, rfl⟩ := h3 rfl
    simp only [ne_eq, not_true_eq_false, if_false, Bool.false_eq_true]
    rw [← hw]
    rfl
  · simp only [ne_eq, not_true_eq_false, if_false, if_true, calm_flush, hw]
theorem wiped_cells {l : List (List UInt8)} (hc : ∀ b ∈ l, b.length = 64) (a e : Nat) : ∀ c ∈ wiped l a e, c.length = 64 := by
  intro c hm
  obtain ⟨i, hi⟩ := List.getElem?_of_mem hm
  by_cases h : a ≤ i ∧ i < e
  · by_cases h3 : i < l.length
    · rw [wiped_in h.1 h.2 h3] at hi; cases hi; simp
    · rw [List.getElem?_eq_none (by rw [wiped_length]; omega)] at hi; cases hi
  · rw [wiped_out h] at hi
    exact hc c (List.mem_of_getElem? hi)
theorem install_calm {l : List (List UInt8)} (h : 2 ≤ l.length) (gen : Nat) : (Calm l).install gen = (0, Calm (l.set (gen % 2) (pad (superOf gen)))) := by
  unfold Dk.install
  rw [show Calm l = ⟨l, [], -1, false⟩ from rfl, calm_write l [] (gen % 2) (superOf gen) (by omega) (by rw [superOf_length]; omega)]
  simp only [ne_eq, not_true_eq_false, if_false, List.nil_append, calm_flush]
  rfl
def pointed (l : List (List UInt8)) (gen : Nat) (b : List UInt8) : List (List UInt8) :=
  (laid (wiped l (fromOf l.length gen) (toOf l.length gen)) (fromOf l.length gen) gen b).set (gen % 2) (pad (superOf gen))
theorem Log.checkpoint {l : List (List UInt8)} {gen pos : Nat} {es : List (List UInt8)} (L : Log l gen es pos) {b : List UInt8} (hb : b.length ≤ 8192) (hg : gen + 1 ≤ 2147483647) (hf : nOf b ≤ halfOf l.length) :
    (Wl.mk (Calm l) gen pos false).checkpoint b = (0, ⟨Calm (pointed l (gen + 1) b), gen + 1, ((fromOf l.length (gen + 1) + nOf b : Nat) : Int), false⟩) ∧
      Log (pointed l (gen + 1) b) (gen + 1) [b] (fromOf l.length (gen + 1) + nOf b) := by
  have h1 := L.lo
  have h2 := L.hi
  have hto := toOf_le l.length (gen + 1) (by omega)
  have hn := nOf_eq b
  have hft : toOf l.length (gen + 1) = fromOf l.length (gen + 1) + halfOf l.length := rfl
  have hfr := from_ge l.length (gen + 1)
  have hcl : (Calm l).clean (fromOf l.length (gen + 1) : Nat) (toOf l.length (gen + 1) : Nat) = (0, Calm (wiped l (fromOf l.length (gen + 1)) (toOf l.length (gen + 1)))) := clean_calm L.cells hto
  have hwl := wiped_length l (fromOf l.length (gen + 1)) (toOf l.length (gen + 1))
  have hwc := wiped_cells L.cells (fromOf l.length (gen + 1)) (toOf l.length (gen + 1))
  have hlay : (Calm (wiped l (fromOf l.length (gen + 1)) (toOf l.length (gen + 1)))).lay (fromOf l.length (gen + 1) : Nat) (toOf l.length (gen + 1) : Nat) ((gen + 1 : Nat) : Int) b =
      ((((fromOf l.length (gen + 1) + nOf b : Nat) : Int), 0), Calm (laid (wiped l (fromOf l.length (gen + 1)) (toOf l.length (gen + 1))) (fromOf l.length (gen + 1)) ((gen + 1 : Nat) : Int) b)) :=
    lay_calm _ _ _ _ b hb (by omega) (by omega) (by omega) (by rw [hwl]; omega)
  have hll : (laid (wiped l (fromOf l.length (gen + 1)) (toOf l.length (gen + 1))) (fromOf l.length (gen + 1)) ((gen + 1 : Nat) : Int) b).length = l.length := by rw [laid_length, hwl]
  have hlo := laid_other (wiped l (fromOf l.length (gen + 1)) (toOf l.length (gen + 1))) (fromOf l.length (gen + 1)) ((gen + 1 : Nat) : Int) b (by omega)
  have hle := laid_entry (wiped l (fromOf l.length (gen + 1)) (toOf l.length (gen + 1))) (fromOf l.length (gen + 1)) ((gen + 1 : Nat) : Int) b (by omega)
  have hlc := laid_cells hwc (fromOf l.length (gen + 1)) ((gen + 1 : Nat) : Int) b
  have hins := install_calm (l := laid (wiped l (fromOf l.length (gen + 1)) (toOf l.length (gen + 1))) (fromOf l.length (gen + 1)) ((gen + 1 : Nat) : Int) b) (by omega) (gen + 1)
  have hm2 : (gen + 1) % 2 < 2 := Nat.mod_lt _ (by decide)
  have hpl : (pointed l (gen + 1) b).length = l.length := by unfold pointed; rw [List.length_set, hll]
  have hp : ∀ i, i ≠ (gen + 1) % 2 → (pointed l (gen + 1) b)[i]? = (laid (wiped l (fromOf l.length (gen + 1)) (toOf l.length (gen + 1))) (fromOf l.length (gen + 1)) ((gen + 1 : Nat) : Int) b)[i]? := fun i hi => by
    unfold pointed; rw [List.getElem?_set_ne (by omega)]
  have hps : (pointed l (gen + 1) b)[(gen + 1) % 2]? = some (pad (superOf (gen + 1))) := by
    unfold pointed; rw [List.getElem?_set_self (by omega)]
  constructor
  · unfold Wl.checkpoint
    simp only [Bool.false_eq_true, if_false, show (Calm l).lasts.length = l.length from rfl]
    rw [if_neg (by omega), if_neg (by omega), hcl]
    simp only [ne_eq, not_true_eq_false, if_false, hlay, hins, if_true]
    rfl
  · refine ⟨by omega, by omega, ?_, by omega, hg, ?_, ?_, by rw [hpl]; omega, fun i i1 i2 => ?_⟩
    · intro c hm
      obtain ⟨i, hi⟩ := List.getElem?_of_mem hm
      by_cases h0 : i = (gen + 1) % 2
      · subst h0; rw [hps] at hi; cases hi; exact pad_length _ (by rw [superOf_length]; omega)
      · rw [hp i h0] at hi; exact hlc c (List.mem_of_getElem? hi)
    · refine newest_of ?_ ?_
      · rw [hps]; exact super_gen (gen + 1) (by omega) hg
      · have hsl := (newest_slot L.new L.g1).1
        rw [show (gen + 1 + 1) % 2 = gen % 2 by omega, hp _ (by omega), hlo _ (.inl (by omega)), wiped_out (by omega), hsl]
        omega
    · rw [hpl]
      exact .cons hb (fun i hi => by rw [hp _ (by omega)]; exact hle i hi) .nil
    · rw [hpl] at i2
      rw [hp i (by omega), hlo i (.inr i1), wiped_in (by omega) i2 (by omega)]
theorem open_blank (n : Nat) (h4 : 4 ≤ n) (hn : n ≤ 1024) : (Calm (List.replicate n zs)).wopen = (0, ⟨Calm ((List.replicate n zs).set 1 (pad (superOf 1))), 1, (fromOf n 1 : Nat), false⟩, []) ∧ Log ((List.replicate n zs).set 1 (pad (superOf 1))) 1 [] (fromOf n 1) := by
  have hto := toOf_le n 1 (by omega)
  have hfr := from_ge n 1
  have hw : wiped (List.replicate n zs) (fromOf n 1) (toOf n 1) = List.replicate n zs := by
    apply List.ext_getElem?
    intro i
    by_cases h : fromOf n 1 ≤ i ∧ i < toOf n 1
    · rw [wiped_in h.1 h.2 (by simp; omega), List.getElem?_replicate, if_pos (by omega)]
    · rw [wiped_out h]
  have hc : ∀ b ∈ List.replicate n zs, b.length = 64 := fun b hb => by rw [(List.mem_replicate.1 hb).2]; simp
  have hcl : (Calm (List.replicate n zs)).clean (fromOf n 1 : Nat) (toOf n 1 : Nat) = (0, Calm (List.replicate n zs)) := by rw [clean_calm hc (by simpa using hto), hw]
  have hnew : newest (Calm (List.replicate n zs)).now = 0 := by
    show newest (List.replicate n zs) = 0
    unfold newest
    rw [List.getElem?_replicate, List.getElem?_replicate, if_pos (by omega), if_pos (by omega)]
    simp only [Option.getD_some, super_blank]
    rfl
  have hfm : (Calm (List.replicate n zs)).format = (0, Calm ((List.replicate n zs).set 1 (pad (superOf 1)))) := by
    unfold Dk.format
    rw [show (Calm (List.replicate n zs)).lasts.length = n by simp [Calm], hcl]
    simp only [ne_eq, not_true_eq_false, if_false]
    exact install_calm (by simp; omega) 1
  have L : Log ((List.replicate n zs).set 1 (pad (superOf 1))) 1 [] (fromOf n 1) := by
    refine ⟨by simp; omega, by simp; omega, ?_, by omega, by omega, ?_, ?_, ?_, fun i i1 i2 => ?_⟩
    · intro c hm
      rcases List.mem_or_eq_of_mem_set hm with hm | rfl
      · exact hc c hm
      · exact pad_length _ (by rw [superOf_length]; omega)
    · refine newest_of ?_ ?_
      · rw [List.getElem?_set_self (by simp; omega)]
        exact super_gen 1 (by omega) (by omega)
      · rw [show (1 + 1) % 2 = 0 from rfl, List.getElem?_set_ne (by omega), List.getElem?_replicate, if_pos (by omega), Option.getD_some, super_blank]
        omega
    · rw [show ((List.replicate n zs).set 1 (pad (superOf 1))).length = n by simp]
      exact .nil
    · rw [show ((List.replicate n zs).set 1 (pad (superOf 1))).length = n by simp]
      unfold toOf; omega
    · rw [show ((List.replicate n zs).set 1 (pad (superOf 1))).length = n by simp] at i2
      rw [List.getElem?_set_ne (by omega), List.getElem?_replicate, if_pos (by omega)]
  refine ⟨?_, L⟩
  have hll : ((List.replicate n zs).set 1 (pad (superOf 1))).length = n := by simp
  have hsc : (Calm ((List.replicate n zs).set 1 (pad (superOf 1)))).scan (fromOf n 1 : Nat) (toOf n 1 : Nat) 1 = ([], ((fromOf n 1 : Nat) : Int)) := by
    have := L.ents.scan_blank (e := toOf n 1) (by unfold toOf; omega) (by rw [hll]; omega) fun hp => L.rest _ (Nat.le_refl _) (by rw [hll]; exact hp)
    rw [hll] at this
    unfold Dk.scan
    rw [show (Calm ((List.replicate n zs).set 1 (pad (superOf 1)))).lasts.length = n from hll]
    exact this
  have hcl2 : (Calm ((List.replicate n zs).set 1 (pad (superOf 1)))).clean (fromOf n 1 : Nat) (toOf n 1 : Nat) = (0, Calm ((List.replicate n zs).set 1 (pad (superOf 1)))) :=
    clean_none (by show _ ≤ ((List.replicate n zs).set 1 (pad (superOf 1))).length; omega) fun j j1 j2 => L.rest j j1 (by rw [hll]; exact j2)
  unfold Dk.wopen
  rw [hnew]
  simp only [if_true, hfm, ne_eq, not_true_eq_false, if_false, show (Calm (List.replicate n zs)).lasts.length = n by simp [Calm]]
  rw [show ((1 : Nat) : Int) = 1 from rfl, hsc]
  simp only [hcl2, not_true_eq_false, if_false]
end Go.Ax

set_option linter.unusedVariables false
namespace Go.Ax
open Go Go.Proofs
noncomputable def O36 (i : Nat) : Array Oper := opsOf i (bodyOf Try.f36)
theorem s36 : bodyOf Try.f36 = (.seq (.region 0 (O36 0) false) (.seq (.region 1 (O36 1) false) (.seq (.region 2 (O36 2) false) (.seq (.region 3 (O36 3) false) (.seq (.region 4 (O36 4) false) (.seq (.region 5 (O36 5) false) .ret)))))) := by kernel_rfl
theorem e36 : E0 36 = some ⟨58, [0], bodyOf Try.f36⟩ := by kernel_rfl
theorem r36_0 : RR O36 36 58 0 false [] fun _ call md k h =>
 k .normal (st 58 []) h
 := fun _ _ _ _ _ _ => by kernel_rfl
theorem r36_1 : RR O36 36 58 1 false [] fun _ call md k h =>
 bnd2 (call md 13 [(.int .i64 40)] h) fun v1 h2 =>
 k .normal (st 58 [(1, v1)]) h2
 := fun _ _ _ _ _ _ => by kernel_rfl
theorem r36_2 (x1 : AV) : RR O36 36 58 2 false [(1, x1)] fun _ call md k h =>
 bnd2 (call md 31 [x1] h) fun v1 h2 =>
 bnd (aExtract v1 0) fun v3 =>
 bnd (aExtract v1 1) fun v4 =>
 bnd (aExtract v1 2) fun v5 =>
 k .normal (st 58 [(1, x1), (2, v3), (4, v5)]) h2
 := fun _ _ _ _ _ _ => by kernel_rfl
theorem r36_3 (x1 x2 x4 : AV) : RR O36 36 58 3 false [(1, x1), (2, x2), (4, x4)] fun _ call md k h =>
 bnd2 (aRowLit tab 22 2 [(0, (.int .u8 104)), (1, (.int .u8 105))] h) fun v1 h2 =>
 bnd (aConv tab 22 22 v1 h2) fun v3 =>
 bnd2 (freezeA v3 h2) fun v4 h5 =>
 bnd2 (call md 33 [x2, v4] h5) fun v6 h7 =>
 k .normal (st 58 [(1, x1), (2, x2), (4, x4), (5, v6)]) h7
 := fun _ _ _ _ _ _ => by kernel_rfl
theorem r36_4 (x1 x2 x4 x5 : AV) : RR O36 36 58 4 false [(1, x1), (2, x2), (4, x4), (5, x5)] fun _ call md k h =>
 bnd2 (call md 31 [x1] h) fun v1 h2 =>
 bnd (aExtract v1 0) fun v3 =>
 bnd (aExtract v1 1) fun v4 =>
 bnd (aExtract v1 2) fun v5 =>
 k .normal (st 58 [(2, x2), (4, x4), (5, x5), (7, v4), (8, v5)]) h2
 := fun _ _ _ _ _ _ => by kernel_rfl
theorem r36_5 (x2 x4 x5 x7 x8 : AV) : RR O36 36 58 5 false [(2, x2), (4, x4), (5, x5), (7, x7), (8, x8)] fun _ call md k h =>
 bnd (aBinC tab .eql 27 x4 (.int .i64 0) true) fun v1 =>
 gd true v1 h (fun k => k x5 h) fun v2 h3 =>
 gd true v1 h3 (fun k => bnd (aBinC tab .eql 27 v2 (.int .i64 0) true) (k · h3)) fun v4 h5 =>
 bnd (aPick v1 v4 (.bool false)) fun v6 =>
 gd true v6 h5 (fun k => k x8 h5) fun v7 h8 =>
 gd true v6 h8 (fun k => bnd (aBinC tab .eql 27 v7 (.int .i64 0) true) (k · h8)) fun v9 h10 =>
 bnd (aPick v6 v9 (.bool false)) fun v11 =>
 gd true v11 h10 (fun k => k x7 h10) fun v12 h13 =>
 gd true v11 h13 (fun k => bnd (aLen tab 30 v12) (k · h13)) fun v14 h15 =>
 gd true v11 h15 (fun k => bnd (aBinC tab .eql 3 v14 (.int .i64 1) true) (k · h15)) fun v16 h17 =>
 bnd (aPick v11 v16 (.bool false)) fun v18 =>
 gd true v18 h17 (fun k => k x7 h17) fun v19 h20 =>
 gd true v18 h20 (fun k => bnd (aIndexAddr tab 30 v19 (.int .i64 0)) (k · h20)) fun v21 h22 =>
 gd true v18 h22 (fun k => bnd (aLoad tab 22 v21 h22) (k · h22)) fun v23 h24 =>
 gd true v18 h24 (fun k => bnd (aConv tab 22 9 v23 h24) (k · h24)) fun v25 h26 =>
 gd true v18 h26 (fun k => bnd (aBinC tab .eql 9 v25 (liftC (Go.Value.string {data := #[104, 105]})) true) (k · h26)) fun v27 h28 =>
 bnd (aPick v18 v27 (.bool false)) fun v29 =>
 gd true v29 h28 (fun k => k x2 h28) fun v30 h31 =>
 gd true v29 h31 (fun k => bnd2 (call md 37 [v30] h31) k) fun v32 h33 =>
 gd true v29 h33 (fun k => bnd (aBinC tab .eql 3 v32 (.int .i64 1) true) (k · h33)) fun v34 h35 =>
 bnd (aPick v29 v34 (.bool false)) fun v36 =>
 gd true v36 h35 (fun k => k x2 h35) fun v37 h38 =>
 gd true v36 h38 (fun k => bnd2 (call md 34 [v37] h38) k) fun v39 h40 =>
 gd true v36 h40 (fun k => bnd (aBinC tab .eql 3 v39 (.int .i64 2) true) (k · h40)) fun v41 h42 =>
 bnd (aPick v36 v41 (.bool false)) fun v43 =>
 k .normal (st 58 [(0, v43)]) h42
 := fun _ _ _ _ _ _ => by kernel_rfl
def R36 := And.intro @r36_0 <| And.intro @r36_1 <| And.intro @r36_2 <| And.intro @r36_3 <| And.intro @r36_4 <| @r36_5
end Go.Ax

set_option linter.unusedVariables false
namespace Go.Ax
open Go Go.Proofs
theorem e8 : E0 8 = some ⟨65, [4], bodyOf Try.f8⟩ := by kernel_rfl
end Go.Ax

namespace Go.Ax
open Go Go.Proofs
theorem Lsk.fresh {S : Obs} {h h' : Heap} {q p r : Nat} {w : Wl} (L : Lsk S h q p r w) (k : Keep (From h.length) h h') : Lsk S h' q p r w :=
  ⟨L.hq, by rw [k.2 q (Nat.not_le.2 (List.getElem?_eq_some_iff.1 L.var).1)]; exact L.var, L.dsk.fresh k⟩
theorem Lsk.lt {S : Obs} {h : Heap} {q p r : Nat} {w : Wl} (L : Lsk S h q p r w) : q < h.length := (List.getElem?_eq_some_iff.1 L.var).1
theorem Lsk.up {S : Obs} {h : Heap} {q p r : Nat} {w : Wl} (L : Lsk S h q p r w) (up : Up S h) : Up (fun i => S i ∧ i ≠ q) h := fun i hi => ⟨up i hi, by have := L.lt; omega⟩
theorem calm_sane {l : List (List UInt8)} (h : l.length ≤ 1024) : Sane (Calm l) := ⟨fun _ => rfl, by simp [Calm], by simp [Calm], h⟩
theorem ext32 (x y z : AV) : aExtract (.tuple [x, y, z]) 2 = some z := rfl
theorem answers4_ok (h : Heap) (k : Nat) (hk : 10500 < k) : ∃ h', exFn C0 E0 (k + 1) false 36 [] h = some (.bool true, h') ∧ Keep (From h.length) h h' := by
  obtain ⟨k, rfl⟩ : ∃ j, k = j + 3 := ⟨k - 3, by omega⟩
  have up := Up.fresh h
  obtain ⟨p, r, h1, n1, D1, k1⟩ := new_ok 40 h false (k + 2)
  have up1 := up.keep k1
  obtain ⟨o1, L1⟩ := open_blank 40 (by omega) (by omega)
  have dn : Dk.new 40 = Calm (List.replicate 40 zs) := rfl
  rw [dn] at D1
  obtain ⟨h2, l, x, g1, k2, -, a2, -⟩ := open_ok D1 up1 (by simp [Calm]) (calm_sane (by simp)) (k + 2) (by omega)
  rw [o1] at g1 a2
  obtain ⟨q, rfl, hq1, hq2, W1, -⟩ := a2 rfl
  have k3 : Keep (From h2.length) h2 (h2 ++ [.dead]) := Keep.app h2 _ (Up.fresh h2)
  have W1' := W1.fresh k3
  have up3 := (up1.keep k2).keep k3
  have hn1 : nOf hi = 2 := rfl
  obtain ⟨p1, L2⟩ := L1.append (b := hi) (by decide) (by rw [hn1]; simp; decide)
  obtain ⟨h4, g2, W2, k4⟩ := append_ok W1' up3 (by simp [Calm]) (by decide) (by decide) (calm_sane (by simp)) hi_bs (by decide) (k + 2) (by omega)
  rw [p1] at g2 W2
  have up4 := up3.keep k4
  have o2 := L2.open
  have ll := L2.hi
  have ll2 := L2.lo
  have hlen : (laid ((List.replicate 40 zs).set 1 (pad (superOf 1))) (fromOf 40 1) ((1 : Nat) : Int) hi).length = 40 := by rw [laid_length]; simp
  generalize laid ((List.replicate 40 zs).set 1 (pad (superOf 1))) (fromOf 40 1) ((1 : Nat) : Int) hi = l2 at *
  obtain ⟨h5, l', y, g3, k5, D5, a5, -⟩ := open_ok W2.dsk (W2.up up4) (by exact ll2) (calm_sane ll) (k + 2) (by omega)
  rw [o2] at g3 a5 D5
  obtain ⟨q', rfl, -, -, -, a6⟩ := a5 rfl
  have hv : h5[q]? = _ := (k5.2 q (fun h => h.2 rfl)).trans W2.var
  obtain ⟨v, hv1, bv⟩ := a6.rw.idx (i := 0) rfl
  rw [show ((0 : Nat) : Int) = 0 from rfl] at hv1
  have W5 : Lsk (From h.length) h5 q p r ⟨Calm l2, 1, ((fromOf 40 1 + nOf hi : Nat) : Int), false⟩ := ⟨W2.hq, hv, D5⟩
  have us := used_ok W5 (by show 2 ≤ l2.length; omega) (by show 1 < 2 ^ 62; decide) (by show (0 : Int) ≤ ((fromOf 40 1 + nOf hi : Nat) : Int); decide) (by show ((fromOf 40 1 + nOf hi : Nat) : Int) < 2 ^ 62; decide) k
  have gs := gen_ok W5.var (k + 2)
  have hl40 : l2.length = 40 := hlen
  rw [show (Calm l2).lasts.length = 40 from hl40] at us
  have kk := (((k1.trans k2).trans (k3.up (up1.keep k2))).trans k4).trans (k5.mono fun i hi => hi.1)
  have c1 : decide ((((1 : Nat) : Int)) = 1) = true := by decide
  have c2 : decide ((((fromOf 40 1 + nOf hi : Nat) : Int)) - (fromOf 40 1 : Nat) = 2) = true := by decide
  have c3 : decide ((0 : Int) = 0) = true := by decide
  have c4 : decide (((([] : List (List UInt8)) ++ [hi]).length : Int) = 1) = true := by decide
  have c5 : (hi == hi) = true := by decide
  refine ⟨h5, exFn_of e36 ?_, kk⟩
  rw [fnK, show (([] : List AV) ++ List.replicate (58 - ([] : List AV).length) AV.undef) = st 58 [] from rfl, s36]
  simp -implicitDefEqProofs only [↓RK, RK, ↓RB, RB, decide_true, decide_false, STs, Nat.reduceBEq, ↓reduceIte, Nat.reduceLT, ↓R36, R36, n1, g1, ext30, ext31, ext32, rowlit_hi, conv_hi, frz_hi, g2, g3, bin_eql, c3, a6.rw.len, c4, hv1, load22, bv.str, lift_hi, str_eql, str_hi, c5, gs, c1, us, c2]
end Go.Ax

namespace Go.Ax
open Go Go.Proofs
structure WlOk (w : Wl) : Prop where
  sane : Sane w.d
  min : 4 ≤ w.d.lasts.length
  gen : w.gen ≤ 2147483647
  pos : w.pos < 2 ^ 40
theorem append_st {w : Wl} (o : WlOk w) (b : List UInt8) : WlOk (w.append b).2 ∧ (w.append b).2.d.lasts.length = w.d.lasts.length := by
  unfold Wl.append
  cases w.down
  case true => exact ⟨o, rfl⟩
  simp only [Bool.false_eq_true, if_false]
  obtain ⟨s, l, -⟩ := lay_st (at' := w.pos) (e := (toOf w.d.lasts.length w.gen : Nat)) (gen := (w.gen : Nat)) (b := b) o.sane
  have ha := lay_at (d := w.d) (at' := w.pos) (e := (toOf w.d.lasts.length w.gen : Nat)) (gen := (w.gen : Nat)) (b := b)
  have hl := o.sane.len
  have hm := o.min
  have hp := o.pos
  generalize w.d.lay w.pos (toOf w.d.lasts.length w.gen : Nat) w.gen b = R at *
  refine ⟨⟨s, by simp only; omega, o.gen, ?_⟩, l⟩
  simp only
  split
  · rename_i z
    have := ha z
    omega
  · exact hp
theorem checkpoint_st {w : Wl} (o : WlOk w) (b : List UInt8) : WlOk (w.checkpoint b).2 ∧ (w.checkpoint b).2.d.lasts.length = w.d.lasts.length := by
  have hl := o.sane.len
  have hm := o.min
  have hp := o.pos
  have hg := o.gen
  unfold Wl.checkpoint
  cases w.down
  case true => exact ⟨o, rfl⟩
  simp only [Bool.false_eq_true, if_false]
  split
  · exact ⟨o, rfl⟩
  split
  · exact ⟨o, rfl⟩
  rename_i hq
  obtain ⟨s1, l1, -⟩ := clean_st (a := (fromOf w.d.lasts.length (w.gen + 1) : Nat)) (e := (toOf w.d.lasts.length (w.gen + 1) : Nat)) o.sane
  generalize w.d.clean (fromOf w.d.lasts.length (w.gen + 1) : Nat) (toOf w.d.lasts.length (w.gen + 1) : Nat) = C at *
  split
  · exact ⟨⟨s1, by simp only; omega, hg, hp⟩, l1⟩
  obtain ⟨s2, l2, -⟩ := lay_st (at' := (fromOf w.d.lasts.length (w.gen + 1) : Nat)) (e := (toOf w.d.lasts.length (w.gen + 1) : Nat)) (gen := ((w.gen + 1 : Nat) : Int)) (b := b) s1
  have ha := lay_at (d := C.2) (at' := (fromOf w.d.lasts.length (w.gen + 1) : Nat)) (e := (toOf w.d.lasts.length (w.gen + 1) : Nat)) (gen := ((w.gen + 1 : Nat) : Int)) (b := b)
  generalize C.2.lay (fromOf w.d.lasts.length (w.gen + 1) : Nat) (toOf w.d.lasts.length (w.gen + 1) : Nat) ((w.gen + 1 : Nat) : Int) b = R at *
  split
  · exact ⟨⟨s2, by simp only; omega, hg, hp⟩, by simp only; omega⟩
  rename_i z2
  have ha := ha (by simpa using z2)
  obtain ⟨s3, l3, -⟩ := install_st (gen := w.gen + 1) s2 (by omega)
  generalize R.2.install (w.gen + 1) = I at *
  split
  · exact ⟨⟨s3, by simp only; omega, by simp only; omega, by simp only; omega⟩, by simp only; omega⟩
  · exact ⟨⟨s3, by simp only; omega, hg, hp⟩, by simp only; omega⟩
theorem oneOf_le {now : List (List UInt8)} {at' e gen : Int} {b : List UInt8} (h : oneOf now at' e gen = some b) : 0 ≤ at' ∧ at' + sizeOf b.length ≤ min e now.length := by
  unfold oneOf at h
  split at h
  · rename_i h0
    simp only at h
    split at h
    · cases h
    · split at h
      · cases h
      · rename_i h1 h2
        split at h
        · generalize (get4 (((now[at'.toNat]?).getD []).drop 4)).toNat = size at *
          have hb : b.length ≤ size := by cases h; rw [List.length_take]; omega
          have h4 : ¬ min e now.length - at' < sizeOf size := fun x => h2 (.inr x)
          refine ⟨h0.1, ?_⟩
          unfold sizeOf at *
          omega
        · cases h
  · cases h
theorem scan_le {now : List (List UInt8)} {e gen : Int} : ∀ (f : Nat) (a : Int), (scanOf now e gen f a).2 ≤ max a now.length := by
  intro f
  induction f with
  | zero => intro a; simp [scanOf]; omega
  | succ f ih =>
    intro a
    cases ho : oneOf now a e gen with
    | none => rw [scanOf_none ho]; simp only; omega
    | some b =>
      rw [scanOf_some ho]
      obtain ⟨o1, o2⟩ := oneOf_le ho
      have hp := sizeOf_pos b.length
      have := ih (a + sizeOf b.length)
      simp only
      omega
theorem open_st {d : Dk} (s : Sane d) (hm : 4 ≤ d.lasts.length) : Sane d.wopen.2.1.d ∧ d.wopen.2.1.d.lasts.length = d.lasts.length ∧ d.wopen.2.1.gen ≤ 2147483647 ∧ d.wopen.2.1.pos < 2 ^ 40 := by
  have hl := s.len
  have hng := newest_lt d.now
  have fr : ∀ g, fromOf d.lasts.length g ≤ 1024 := fun g => by
    have := toOf_le d.lasts.length g (by omega)
    unfold toOf at this
    omega
  have sc : ∀ (f : Dk) (a e gen : Int), f.lasts.length = d.lasts.length → a ≤ 1024 → (f.scan a e gen).2 < 2 ^ 40 := by
    intro f a e gen h1 h2
    have := scan_le (now := f.now) (e := e) (gen := gen) (f.lasts.length + 1) a
    have hn : f.now.length = f.lasts.length := land_length _ _
    unfold Dk.scan
    omega
  unfold Dk.wopen
  by_cases q : newest d.now = 0
  · simp only [if_pos q]
    obtain ⟨s1, l1, -⟩ := format_st s (by omega)
    have sc1 := sc d.format.2 (fromOf d.lasts.length 1 : Nat) (toOf d.lasts.length 1 : Nat) ((1 : Nat) : Int) l1 (by have := fr 1; omega)
    generalize d.format = F at *
    split
    · exact ⟨s1, l1, by simp only; omega, by simp only; omega⟩
    obtain ⟨s2, l2, -⟩ := clean_st (a := (F.2.scan (fromOf d.lasts.length 1 : Nat) (toOf d.lasts.length 1 : Nat) ((1 : Nat) : Int)).2) (e := (toOf d.lasts.length 1 : Nat)) s1
    split
    · exact ⟨s2, by simp only; omega, by simp only; omega, by simp only; omega⟩
    · exact ⟨s2, by simp only; omega, by simp only; omega, sc1⟩
  · simp only [if_neg q, ne_eq, not_true_eq_false, if_false]
    have sc1 := sc d (fromOf d.lasts.length (newest d.now) : Nat) (toOf d.lasts.length (newest d.now) : Nat) (newest d.now : Nat) rfl (by have := fr (newest d.now); omega)
    obtain ⟨s2, l2, -⟩ := clean_st (a := (d.scan (fromOf d.lasts.length (newest d.now) : Nat) (toOf d.lasts.length (newest d.now) : Nat) (newest d.now : Nat)).2) (e := (toOf d.lasts.length (newest d.now) : Nat)) s
    split
    · exact ⟨s2, l2, by simp only; omega, by simp only; omega⟩
    · exact ⟨s2, l2, hng, sc1⟩
structure Apart (b : Nat) (F : Obs) (h : Heap) (S1 S2 : Obs) : Prop where
  hb : b ≤ h.length
  hF : ∀ i, F i → i < h.length
  dis : ∀ i, S1 i → ¬ S2 i
  b1 : ∀ i, S1 i → b ≤ i ∧ i < h.length ∧ ¬ F i
  b2 : ∀ i, S2 i → b ≤ i ∧ i < h.length ∧ ¬ F i
def Out (S : Obs) (h : Heap) : Obs := fun i => S i ∨ h.length ≤ i
def Cut (S : Obs) (h : Heap) : Obs := fun i => S i ∧ i < h.length
theorem Out.up (S : Obs) (h : Heap) : Up (Out S h) h := fun _ hi => .inr hi
theorem Apart.op1 {b : Nat} {F S1 S2 : Obs} {h h' : Heap} (A : Apart b F h S1 S2) (k : Keep (Out S1 h) h h') : Apart b F h' (Cut (Out S1 h) h') S2 ∧ Keep (Zone b F h) h h' ∧ (∀ i, i < h.length → S2 i → ¬ Out S1 h i) := by
  have hk := k.1
  have nf : ∀ i, h.length ≤ i → ¬ F i := fun i h1 h2 => by have := A.hF i h2; omega
  have dj : ∀ i, i < h.length → S2 i → ¬ Out S1 h i := fun i h1 h2 h3 => h3.elim (fun h4 => A.dis i h4 h2) (fun h4 => by omega)
  refine ⟨⟨by have := A.hb; omega, fun i hi => by have := A.hF i hi; omega, fun i h1 h2 => dj i (A.b2 i h2).2.1 h2 h1.1, fun i hi => ?_, fun i hi => ?_⟩, k.mono fun i hi => ?_, dj⟩
  · rcases hi.1 with h1 | h1
    · have := A.b1 i h1; exact ⟨this.1, hi.2, this.2.2⟩
    · exact ⟨by have := A.hb; omega, hi.2, nf i h1⟩
  · have := A.b2 i hi; exact ⟨this.1, by omega, this.2.2⟩
  · rcases hi with h1 | h1
    · have := A.b1 i h1; exact ⟨this.1, this.2.2⟩
    · exact ⟨by have := A.hb; omega, nf i h1⟩
theorem Apart.swap {b : Nat} {F S1 S2 : Obs} {h : Heap} (A : Apart b F h S1 S2) : Apart b F h S2 S1 := ⟨A.hb, A.hF, fun i h1 h2 => A.dis i h2 h1, A.b2, A.b1⟩
theorem Apart.alloc {b : Nat} {F S1 S2 : Obs} {h h' : Heap} (A : Apart b F h S1 S2) (k : Keep (From h.length) h h') : Apart b (fun i => F i ∨ (h.length ≤ i ∧ i < h'.length)) h' S1 S2 := by
  have hk := k.1
  refine ⟨by have := A.hb; omega, fun i hi => ?_, A.dis, fun i hi => ?_, fun i hi => ?_⟩
  · rcases hi with hi | hi
    · have := A.hF i hi; omega
    · exact hi.2
  · have := A.b1 i hi; exact ⟨this.1, by omega, fun hf => by rcases hf with hf | hf; exact this.2.2 hf; omega⟩
  · have := A.b2 i hi; exact ⟨this.1, by omega, fun hf => by rcases hf with hf | hf; exact this.2.2 hf; omega⟩
theorem Apart.forget {b : Nat} {F G S1 S2 : Obs} {h : Heap} (A : Apart b F h S1 S2) (hG : ∀ i, G i → F i) : Apart b G h S1 S2 :=
  ⟨A.hb, fun i hi => A.hF i (hG i hi), A.dis, fun i hi => ⟨(A.b1 i hi).1, (A.b1 i hi).2.1, fun h => (A.b1 i hi).2.2 (hG i h)⟩, fun i hi => ⟨(A.b2 i hi).1, (A.b2 i hi).2.1, fun h => (A.b2 i hi).2.2 (hG i h)⟩⟩
theorem Apart.fresh {b : Nat} {F S1 S2 : Obs} {h h' : Heap} (A : Apart b F h S1 S2) (k : Keep (From h.length) h h') : Apart b F h' S1 S2 := (A.alloc k).forget fun _ h => .inl h
theorem Lsk.cap {S : Obs} {h : Heap} {q p r : Nat} {w : Wl} (L : Lsk S h q p r w) : Lsk (Cut S h) h q p r w :=
  ⟨⟨L.hq, L.lt⟩, L.var, L.dsk.cap.mono fun i hi => ⟨⟨hi.1.1, hi.2⟩, hi.1.2⟩⟩
theorem Lsk.keep {S U : Obs} {h h' : Heap} {q p r : Nat} {w : Wl} (L : Lsk S h q p r w) (k : Keep U h h') (hd : ∀ i, i < h.length → S i → ¬ U i) : Lsk S h' q p r w :=
  ⟨L.hq, by rw [k.2 q (hd q L.lt L.hq)]; exact L.var, L.dsk.keep k fun i hi hs => hd i hi hs.1⟩
theorem Lsk.mono {S U : Obs} {h : Heap} {q p r : Nat} {w : Wl} (L : Lsk S h q p r w) (hs : ∀ i, S i → U i) : Lsk U h q p r w := ⟨hs _ L.hq, L.var, L.dsk.mono fun i hi => ⟨hs i hi.1, hi.2⟩⟩
theorem Rlk.lt {S : Obs} {h : Heap} {q p r : Nat} {w : Wl} (L : Rlk S h q p r w) : q < h.length := (List.getElem?_eq_some_iff.1 L.var).1
theorem Rlk.cap {S : Obs} {h : Heap} {q p r : Nat} {w : Wl} (L : Rlk S h q p r w) : Rlk (Cut S h) h q p r w :=
  ⟨⟨L.hq, L.lt⟩, L.var, L.dsk.cap.mono fun i hi => ⟨⟨hi.1.1, hi.2⟩, hi.1.2⟩⟩
theorem Rlk.keep {S U : Obs} {h h' : Heap} {q p r : Nat} {w : Wl} (L : Rlk S h q p r w) (k : Keep U h h') (hd : ∀ i, i < h.length → S i → ¬ U i) : Rlk S h' q p r w :=
  ⟨L.hq, by rw [k.2 q (hd q L.lt L.hq)]; exact L.var, L.dsk.keep k fun i hi hs => hd i hi hs.1⟩
theorem Rlk.mono {S U : Obs} {h : Heap} {q p r : Nat} {w : Wl} (L : Rlk S h q p r w) (hs : ∀ i, S i → U i) : Rlk U h q p r w := ⟨hs _ L.hq, L.var, L.dsk.mono fun i hi => ⟨hs i hi.1, hi.2⟩⟩
theorem Rlk.fresh {S : Obs} {h h' : Heap} {q p r : Nat} {w : Wl} (L : Rlk S h q p r w) (k : Keep (From h.length) h h') : Rlk S h' q p r w := L.keep k fun _ hi _ hj => Nat.not_le.2 hi hj
end Go.Ax

namespace Go.Ax
open Go Go.Proofs
def Duo (b : Nat) (F : Obs) (h : Heap) (q p r q' p' r' : Nat) (w v : Wl) : Prop := ∃ S1 S2, Apart b F h S1 S2 ∧ Lsk S1 h q p r w ∧ Rlk S2 h q' p' r' v
structure Like (w v : Wl) : Prop where
  eq : WlEq w v
  ok : WlOk w
  fuse : v.d.fuse < 2 ^ 63
theorem Like.loose {w v : Wl} (l : Like w v) : v.d.loose.length ≤ 1100 := by rw [← l.eq.d.loose]; exact l.ok.sane.few
theorem Like.len {w v : Wl} (l : Like w v) : v.d.lasts.length = w.d.lasts.length := by rw [← l.eq.d.lasts]
theorem Duo.append {b : Nat} {F : Obs} {h : Heap} {q p r q' p' r' : Nat} {w v : Wl} (D : Duo b F h q p r q' p' r' w v) (l : Like w v) {x : AV} {bs : List UInt8} (hx : Bs x bs) (hb : bs.length < 10000) (k : Nat) (hk : 20500 < k) :
    ∃ h1 h2, exFn C0 E0 (k + 1) false 33 [lp q, x] h = some (.int .i64 (w.append bs).1, h1) ∧ exFn C0 E0 (k + 1) false 41 [rlp q', x] h1 = some (.int .i64 (w.append bs).1, h2) ∧
      Duo b F h2 q p r q' p' r' (w.append bs).2 (v.rappend bs).2 ∧ Like (w.append bs).2 (v.rappend bs).2 ∧ Keep (Zone b F h) h h1 ∧ Keep (Zone b F h) h h2 ∧ (w.append bs).2.d.lasts.length = w.d.lasts.length := by
  obtain ⟨S1, S2, A, L, R⟩ := D
  have hm := l.ok.min
  have hg := l.ok.gen
  have hp := l.ok.pos
  have hl := l.ok.sane.len
  obtain ⟨e1, e2⟩ := l.eq.append bs
  obtain ⟨o1, o2⟩ := append_st l.ok bs
  obtain ⟨h1, g1, L1, k1⟩ := append_ok (L.mono fun i hi => .inl hi) (Out.up S1 h) (by omega) (by omega) (by omega) l.ok.sane hx (by omega) k (by omega)
  obtain ⟨A1, z1, dj⟩ := A.op1 k1
  have R1 := R.keep k1 dj
  obtain ⟨h2, g2, R2, k2⟩ := rappend_ok (R1.mono fun i hi => .inl hi) (Out.up S2 h1) (by rw [l.len]; omega) (by rw [← l.eq.gen]; omega) (by rw [← l.eq.pos]; omega) l.loose l.fuse hx hb k (by omega)
  obtain ⟨A2, z2, dj2⟩ := A1.swap.op1 k2
  rw [← e1] at g2
  exact ⟨h1, h2, g1, g2, ⟨_, _, A2.swap, L1.cap.keep k2 dj2, R2.cap⟩, ⟨e2, o1, Int.lt_of_le_of_lt (rappend_fuse v bs (by rw [l.len]; exact hl)) l.fuse⟩, z1, z1.trans z2, o2⟩
theorem Duo.checkpoint {b : Nat} {F : Obs} {h : Heap} {q p r q' p' r' : Nat} {w v : Wl} (D : Duo b F h q p r q' p' r' w v) (l : Like w v) {x : AV} {bs : List UInt8} (hx : Bs x bs) (hb : bs.length < 10000) (k : Nat) (hk : 20500 < k) :
    ∃ h1 h2, exFn C0 E0 (k + 1) false 35 [lp q, x] h = some (.int .i64 (w.checkpoint bs).1, h1) ∧ exFn C0 E0 (k + 1) false 42 [rlp q', x] h1 = some (.int .i64 (w.checkpoint bs).1, h2) ∧
      Duo b F h2 q p r q' p' r' (w.checkpoint bs).2 (v.rcheckpoint bs).2 ∧ Like (w.checkpoint bs).2 (v.rcheckpoint bs).2 ∧ Keep (Zone b F h) h h1 ∧ Keep (Zone b F h) h h2 ∧ (w.checkpoint bs).2.d.lasts.length = w.d.lasts.length := by
  obtain ⟨S1, S2, A, L, R⟩ := D
  have hm := l.ok.min
  have hg := l.ok.gen
  have hl := l.ok.sane.len
  obtain ⟨e1, e2⟩ := l.eq.checkpoint bs
  obtain ⟨o1, o2⟩ := checkpoint_st l.ok bs
  obtain ⟨h1, g1, L1, k1⟩ := checkpoint_ok (L.mono fun i hi => .inl hi) (Out.up S1 h) (by omega) (by omega) l.ok.sane hx (by omega) k (by omega)
  obtain ⟨A1, z1, dj⟩ := A.op1 k1
  have R1 := R.keep k1 dj
  obtain ⟨h2, g2, R2, k2⟩ := rcheckpoint_ok (R1.mono fun i hi => .inl hi) (Out.up S2 h1) (by rw [l.len]; omega) (by rw [← l.eq.gen]; omega) l.loose l.fuse hx hb k (by omega)
  obtain ⟨A2, z2, dj2⟩ := A1.swap.op1 k2
  rw [← e1] at g2
  exact ⟨h1, h2, g1, g2, ⟨_, _, A2.swap, L1.cap.keep k2 dj2, R2.cap⟩, ⟨e2, o1, Int.lt_of_le_of_lt (rcheckpoint_fuse v bs (by rw [l.len]; exact hl)) l.fuse⟩, z1, z1.trans z2, o2⟩
def Dsks (b : Nat) (F : Obs) (h : Heap) (p r p' r' : Nat) (d v : Dk) : Prop := ∃ S1 S2, Apart b F h S1 S2 ∧ Dsk S1 h p r d ∧ Rsk S2 h p' r' v
structure LikeD (d v : Dk) : Prop where
  eq : DkEq d v
  sane : Sane d
  min : 4 ≤ d.lasts.length
  fuse : v.fuse < 2 ^ 63
theorem Duo.dsks {b : Nat} {F : Obs} {h : Heap} {q p r q' p' r' : Nat} {w v : Wl} (D : Duo b F h q p r q' p' r' w v) : Dsks b F h p r p' r' w.d v.d := by
  obtain ⟨S1, S2, A, L, R⟩ := D
  exact ⟨S1, S2, A, L.dsk.mono fun i hi => hi.1, R.dsk.mono fun i hi => hi.1⟩
theorem Like.d {w v : Wl} (l : Like w v) : LikeD w.d v.d := ⟨l.eq.d, l.ok.sane, l.ok.min, l.fuse⟩
theorem Dsks.crash {b : Nat} {F : Obs} {h : Heap} {p r p' r' : Nat} {d v : Dk} (D : Dsks b F h p r p' r' d v) (l : LikeD d v) (K : Nat) (hK : K < 2 ^ 64) (torn at' : Int) (k : Nat) (hk : 1200 < k) :
    ∃ h1 h2, exFn C0 E0 (k + 1) false 25 [dp p, .int .u64 K, .int .i64 torn, .int .i64 at'] h = some (.tuple [], h1) ∧ exFn C0 E0 (k + 1) false 43 [rp p', .int .u64 K, .int .i64 torn, .int .i64 at'] h1 = some (.tuple [], h2) ∧
      Dsks b F h2 p r p' r' (d.crash K torn at') (v.crash K torn at') ∧ LikeD (d.crash K torn at') (v.crash K torn at') ∧ Keep (Zone b F h) h h1 ∧ Keep (Zone b F h) h h2 ∧ (d.crash K torn at').lasts.length = d.lasts.length := by
  obtain ⟨S1, S2, A, P, R⟩ := D
  have few := l.sane.few
  obtain ⟨h1, g1, P1, k1⟩ := crash_ok (P.mono fun i hi => .inl hi) (Out.up S1 h) (by omega) K hK torn at' false k (by omega)
  obtain ⟨A1, z1, dj⟩ := A.op1 k1
  have R1 := R.keep k1 dj
  obtain ⟨h2, g2, R2, k2⟩ := rcrash_ok (R1.mono fun i hi => .inl hi) (Out.up S2 h1) (by rw [← l.eq.loose]; omega) K torn at' k (by rw [← l.eq.loose]; omega)
  obtain ⟨A2, z2, dj2⟩ := A1.swap.op1 k2
  have hlen : (d.crash K torn at').lasts.length = d.lasts.length := crashed_length _ _ _ _ _ _
  exact ⟨h1, h2, g1, g2, ⟨_, _, A2.swap, P1.cap.keep k2 dj2, R2.cap⟩, ⟨l.eq.crash K torn at', crash_sane l.sane.len K torn at', by rw [hlen]; exact l.min, by simp [Dk.crash]⟩, z1, z1.trans z2, hlen⟩
theorem wopen_rows {d : Dk} (hl : d.lasts.length ≤ 1024) (hf : d.format.2.lasts.length ≤ 1024) : (∀ c ∈ d.wopen.2.2, c.length ≤ 8192) ∧ d.wopen.2.2.length ≤ 1025 := by
  have key : ∀ (f : Dk) (a e gen : Int), f.lasts.length ≤ 1024 → (∀ c ∈ (f.scan a e gen).1, c.length ≤ 8192) ∧ (f.scan a e gen).1.length ≤ 1025 := by
    intro f a e gen hfl
    have small : ∀ (n : Nat) (a : Int), (∀ c ∈ (scanOf f.now e gen n a).1, c.length ≤ 8192) ∧ (scanOf f.now e gen n a).1.length ≤ n := by
      intro n
      induction n with
      | zero => intro a; simp [scanOf]
      | succ n ih =>
        intro a
        cases ho : oneOf f.now a e gen with
        | none => rw [scanOf_none ho]; simp
        | some b =>
          rw [scanOf_some ho]
          have h1 := ih (a + sizeOf b.length)
          refine ⟨fun c hc => ?_, by simp only [List.length_cons]; omega⟩
          rcases List.mem_cons.1 hc with rfl | hc
          · unfold oneOf at ho
            split at ho
            · simp only at ho
              split at ho
              · cases ho
              · split at ho
                · cases ho
                · rename_i h2 h3
                  split at ho
                  · have h4 : ¬ 8192 < (get4 (((f.now[a.toNat]?).getD []).drop 4)).toNat := fun x => h3 (.inl x)
                    cases ho
                    rw [List.length_take]; omega
                  · cases ho
            · cases ho
          · exact h1.1 c hc
    have := small (f.lasts.length + 1) a
    exact ⟨this.1, by have := this.2; unfold Dk.scan; omega⟩
  unfold Dk.wopen
  have none : ∀ g : Dk, (∀ c ∈ ((0 : Int), (⟨g, 0, 0, false⟩ : Wl), ([] : List (List UInt8))).2.2, c.length ≤ 8192) ∧ ([] : List (List UInt8)).length ≤ 1025 := fun g => ⟨by simp, by simp⟩
  by_cases q : newest d.now = 0
  · simp only [if_pos q]
    split
    · exact none d
    split
    · exact none d
    · exact key d.format.2 _ _ _ hf
  · simp only [if_neg q, ne_eq, not_true_eq_false, if_false]
    split
    · exact none d
    · exact key d _ _ _ hl
theorem rw_nil : Rw .nils [] := .inl ⟨rfl, rfl⟩
theorem wopen_err {d : Dk} (h : d.wopen.1 ≠ 0) : d.wopen.2.2 = [] := by
  unfold Dk.wopen at h ⊢
  by_cases q : newest d.now = 0
  · simp only [if_pos q] at h ⊢
    split
    · rfl
    split
    · rfl
    · rename_i h1 h2
      rw [if_neg h1, if_neg h2] at h
      exact absurd rfl h
  · simp only [if_neg q, ne_eq, not_true_eq_false, if_false] at h ⊢
    split
    · rfl
    · rename_i h1
      rw [if_neg h1] at h
      exact absurd rfl h
theorem Dsks.open {b : Nat} {F : Obs} {h : Heap} {p r p' r' : Nat} {d v : Dk} (D : Dsks b F h p r p' r' d v) (l : LikeD d v) (k : Nat) (hk : 20500 < k) :
    ∃ h1 h2 x1 x2 x3 x4, exFn C0 E0 (k + 1) false 31 [dp p] h = some (.tuple [x1, x2, .int .i64 d.wopen.1], h1) ∧ exFn C0 E0 (k + 1) false 40 [rp p'] h1 = some (.tuple [x3, x4, .int .i64 d.wopen.1], h2) ∧
      Rw x2 d.wopen.2.2 ∧ Rw x4 d.wopen.2.2 ∧ Keep (Zone b F h) h h1 ∧ Keep (Zone b F h) h h2 ∧ Dsks b F h2 p r p' r' d.wopen.2.1.d v.ropen.2.1.d ∧ LikeD d.wopen.2.1.d v.ropen.2.1.d ∧ d.wopen.2.1.d.lasts.length = d.lasts.length ∧
      (d.wopen.1 = 0 → ∃ q q', x1 = lp q ∧ x3 = rlp q' ∧ Duo b F h2 q p r q' p' r' d.wopen.2.1 v.ropen.2.1 ∧ Like d.wopen.2.1 v.ropen.2.1) ∧ (d.wopen.1 ≠ 0 → x1 = .nilp) := by
  obtain ⟨S1, S2, A, P, R⟩ := D
  have few := l.sane.few
  have hl := l.sane.len
  have hm := l.min
  obtain ⟨e1, e2, e3⟩ := l.eq.open
  obtain ⟨o1, o2, o3, o4⟩ := open_st l.sane hm
  obtain ⟨h1, x1, x2, g1, k1, P1, y1, n1⟩ := open_ok (P.mono fun i hi => .inl hi) (Out.up S1 h) hm l.sane k (by omega)
  obtain ⟨A1, z1, dj⟩ := A.op1 k1
  have R1 := R.keep k1 dj
  obtain ⟨h2, x3, x4, g2, k2, R2, y2, n2⟩ := ropen_ok (R1.mono fun i hi => .inl hi) (Out.up S2 h1) (by rw [← l.eq.lasts]; exact hm) (by rw [← l.eq.loose]; exact few) l.fuse k (by omega)
  obtain ⟨A2, z2, dj2⟩ := A1.swap.op1 k2
  rw [← e1] at g2 y2 n2
  rw [← e2] at y2
  have fu : v.ropen.2.1.d.fuse < 2 ^ 63 := Int.lt_of_le_of_lt (ropen_fuse v (by rw [← l.eq.lasts]; exact hl)) l.fuse
  have ld : LikeD d.wopen.2.1.d v.ropen.2.1.d := ⟨e3.d, o1, by omega, fu⟩
  have ds : Dsks b F h2 p r p' r' d.wopen.2.1.d v.ropen.2.1.d := ⟨_, _, A2.swap, P1.cap.keep k2 dj2, R2.cap⟩
  by_cases z : d.wopen.1 = 0
  · obtain ⟨q, rfl, -, -, L, a⟩ := y1 z
    obtain ⟨q', rfl, -, -, L', a'⟩ := y2 z
    refine ⟨h1, h2, _, x2, _, x4, g1, g2, a.rw, a'.rw, z1, z1.trans z2, ds, ld, o2, fun _ => ⟨q, q', rfl, rfl, ⟨_, _, A2.swap, L.cap.keep k2 dj2, L'.cap⟩, e3, ⟨o1, by omega, o3, o4⟩, fu⟩, fun h => absurd z h⟩
  · obtain ⟨rfl, rfl⟩ := n1 z
    obtain ⟨rfl, rfl⟩ := n2 z
    have hn := wopen_err z
    refine ⟨h1, h2, _, _, _, _, g1, g2, by rw [hn]; exact rw_nil, by rw [hn]; exact rw_nil, z1, z1.trans z2, ds, ld, o2, fun h => absurd h z, fun _ => rfl⟩
end Go.Ax

set_option linter.unusedVariables false
namespace Go.Ax
open Go Go.Proofs
noncomputable def O44 (i : Nat) : Array Oper := opsOf i (bodyOf Try.f44)
noncomputable def B44_1 : Code := (.seq (.seq (.region 4 (O44 4) false) (.cond (Go.Operand.tmp 24) .skip (.exit 0))) (.seq (.block 1 (.seq (.region 6 (O44 6) false) (.seq (.region 7 (O44 7) false) (.seq (.region 8 (O44 8) false) (.cond (Go.Operand.tmp 64) (.seq (.region 9 (O44 9) false) .ret) .skip))))) (.region 5 (O44 5) false)))
theorem s44 : bodyOf Try.f44 = (.seq (.region 0 (O44 0) false) (.seq (.seq (.region 1 (O44 1) true) (.cond (Go.Operand.tmp 17) (.seq (.region 2 (O44 2) false) .ret) .skip)) (.seq (.seq (.region 3 (O44 3) false) (.block 0 (.loop B44_1))) (.seq (.region 10 (O44 10) false) .ret)))) := by kernel_rfl
theorem e44 : E0 44 = some ⟨65, [4], bodyOf Try.f44⟩ := by kernel_rfl
theorem r44_0 (x0 x1 : AV) : RR O44 44 65 0 false [(0, x0), (1, x1)] fun _ call md k h =>
 k .normal (st 65 [(0, x0), (1, x1)]) h
 := fun _ _ _ _ _ _ => by kernel_rfl
theorem r44_1 (x0 x1 : AV) : RR O44 44 65 1 true [(0, x0), (1, x1)] fun _ call md k h =>
 bnd2 (call md 46 [x0] h) fun v1 h2 =>
 bnd (aNil x1) fun v3 =>
 bnd (aFieldAddr tab 74 v3 0) fun v4 =>
 bnd (aLoad tab 30 v4 h2) fun v5 =>
 bnd (aLen tab 30 v5) fun v6 =>
 bnd (aBinC tab .neq 3 v1 v6 false) fun v7 =>
 onT (rdSame (aLoad tab 30 v4 h) v5) <|
 k .normal (st 65 [(0, x0), (1, x1), (17, v7)]) h2
 := RRp [(5, 1)] (by kernel_rfl) (by kernel_rfl) (fun _ _ _ _ _ => by kernel_rfl)
theorem r44_2 (x0 x1 x17 : AV) : RR O44 44 65 2 false [(0, x0), (1, x1), (17, x17)] fun _ call md k h =>
 k .normal (st 65 [(4, (.bool false))]) h
 := fun _ _ _ _ _ _ => by kernel_rfl
theorem r44_3 (x0 x1 x17 : AV) : RR O44 44 65 3 false [(0, x0), (1, x1), (17, x17)] fun _ call md k h =>
 k .normal (st 65 [(0, x0), (1, x1), (5, (.int .i64 0))]) h
 := fun _ _ _ _ _ _ => by kernel_rfl
theorem r44_4 (x0 x1 x5 : AV) : RR O44 44 65 4 false [(0, x0), (1, x1), (5, x5)] fun _ call md k h =>
 bnd (aNil x1) fun v1 =>
 bnd (aFieldAddr tab 74 v1 0) fun v2 =>
 bnd (aLoad tab 30 v2 h) fun v3 =>
 bnd (aLen tab 30 v3) fun v4 =>
 bnd (aBinC tab .lss 3 x5 v4 false) fun v5 =>
 k .normal (st 65 [(0, x0), (1, x1), (5, x5), (24, v5)]) h
 := fun _ _ _ _ _ _ => by kernel_rfl
theorem r44_5 (x0 x1 x5 x64 : AV) : RR O44 44 65 5 false [(0, x0), (1, x1), (5, x5), (64, x64)] fun _ call md k h =>
 bnd (aBinC tab .add 3 x5 (.int .i64 1) true) fun v1 =>
 k .normal (st 65 [(0, x0), (1, x1), (5, v1)]) h
 := fun _ _ _ _ _ _ => by kernel_rfl
theorem r44_6 (x0 x1 x5 x24 : AV) : RR O44 44 65 6 false [(0, x0), (1, x1), (5, x5), (24, x24)] fun _ call md k h =>
 bnd2 (call md 38 [x0, x5] h) fun v1 h2 =>
 bnd (aExtract v1 0) fun v3 =>
 bnd (aExtract v1 1) fun v4 =>
 k .normal (st 65 [(0, x0), (1, x1), (5, x5), (6, v3), (7, v4)]) h2
 := fun _ _ _ _ _ _ => by kernel_rfl
theorem r44_7 (x0 x1 x5 x6 x7 : AV) : RR O44 44 65 7 false [(0, x0), (1, x1), (5, x5), (6, x6), (7, x7)] fun _ call md k h =>
 bnd2 (call md 20 [x0, x5] h) fun v1 h2 =>
 bnd (aExtract v1 0) fun v3 =>
 bnd (aExtract v1 1) fun v4 =>
 k .normal (st 65 [(0, x0), (1, x1), (5, x5), (6, x6), (7, x7), (8, v3), (9, v4)]) h2
 := fun _ _ _ _ _ _ => by kernel_rfl
theorem r44_8 (x0 x1 x5 x6 x7 x8 x9 : AV) : RR O44 44 65 8 false [(0, x0), (1, x1), (5, x5), (6, x6), (7, x7), (8, x8), (9, x9)] fun _ call md k h =>
 bnd (aBinC tab .neq 27 x7 (.int .i64 0) true) fun v1 =>
 gd false v1 h (fun k => k x9 h) fun v2 h3 =>
 gd false v1 h3 (fun k => bnd (aBinC tab .neq 27 v2 (.int .i64 0) true) (k · h3)) fun v4 h5 =>
 bnd (aPick v1 (.bool true) v4) fun v6 =>
 gd false v6 h5 (fun k => k x6 h5) fun v7 h8 =>
 gd false v6 h8 (fun k => k x1 h8) fun v9 h10 =>
 gd false v6 h10 (fun k => k x5 h10) fun v11 h12 =>
 gd false v6 h12 (fun k => bnd2 (call md 57 [v9, v11] h12) k) fun v13 h14 =>
 gd false v6 h14 (fun k => bnd2 (call md 22 [v7, v13] h14) k) fun v15 h16 =>
 gd false v6 h16 (fun k => bnd (aUn .not v15) (k · h16)) fun v17 h18 =>
 bnd (aPick v6 (.bool true) v17) fun v19 =>
 gd false v19 h18 (fun k => k x8 h18) fun v20 h21 =>
 gd false v19 h21 (fun k => k x1 h21) fun v22 h23 =>
 gd false v19 h23 (fun k => bnd (aNil v22) (k · h23)) fun v24 h25 =>
 gd false v19 h25 (fun k => bnd (aFieldAddr tab 74 v24 0) (k · h25)) fun v26 h27 =>
 gd false v19 h27 (fun k => bnd (aLoad tab 30 v26 h27) (k · h27)) fun v28 h29 =>
 gd false v19 h29 (fun k => k x5 h29) fun v30 h31 =>
 gd false v19 h31 (fun k => bnd (aIndexAddr tab 30 v28 v30) (k · h31)) fun v32 h33 =>
 gd false v19 h33 (fun k => bnd (aLoad tab 22 v32 h33) (k · h33)) fun v34 h35 =>
 gd false v19 h35 (fun k => bnd2 (call md 22 [v20, v34] h35) k) fun v36 h37 =>
 gd false v19 h37 (fun k => bnd (aUn .not v36) (k · h37)) fun v38 h39 =>
 bnd (aPick v19 (.bool true) v38) fun v40 =>
 k .normal (st 65 [(0, x0), (1, x1), (5, x5), (64, v40)]) h39
 := fun _ _ _ _ _ _ => by kernel_rfl
theorem r44_9 (x0 x1 x5 x64 : AV) : RR O44 44 65 9 false [(0, x0), (1, x1), (5, x5), (64, x64)] fun _ call md k h =>
 k .normal (st 65 [(4, (.bool false))]) h
 := fun _ _ _ _ _ _ => by kernel_rfl
theorem r44_10 (x0 x1 x5 x24 : AV) : RR O44 44 65 10 false [(0, x0), (1, x1), (5, x5), (24, x24)] fun _ call md k h =>
 k .normal (st 65 [(4, (.bool true))]) h
 := fun _ _ _ _ _ _ => by kernel_rfl
def R44 := And.intro @r44_0 <| And.intro @r44_1 <| And.intro @r44_2 <| And.intro @r44_3 <| And.intro @r44_4 <| And.intro @r44_5 <| And.intro @r44_6 <| And.intro @r44_7 <| And.intro @r44_8 <| And.intro @r44_9 <| @r44_10
end Go.Ax

namespace Go.Ax
open Go Go.Proofs
theorem same4_loop {S U : Obs} {p r p' r' : Nat} {d v : Dk} (e : DkEq d v) (hl : d.loose.length < 2 ^ 30) (N : Nat) (hN : d.loose.length + 80 < N) :
    ∀ (m i n : Nat) (h : Heap), i + m = d.lasts.length → m < n → Dsk S h p r d → Rsk U h p' r' v →
    ∃ h', (∀ K : Ex → List AV → Heap → Option (AV × Heap), loopK (fun next => runK C0 (exFn C0 E0 (N + 3)) false 44 (N + 3) B44_1 (seqE next K)) n (st 65 [(0, dp p), (1, rp p'), (5, .int .i64 i)]) h =
      K (.exit 0) (st 65 [(0, dp p), (1, rp p'), (5, .int .i64 d.lasts.length), (24, .bool false)]) h') ∧ Keep (From h.length) h h' := by
  intro m
  induction m with
  | zero =>
    intro i n h hi hn D R
    obtain ⟨x, vs, hx, -, -⟩ := R.var
    obtain ⟨n, rfl⟩ : ∃ j, n = j + 1 := ⟨n - 1, by omega⟩
    obtain rfl : i = d.lasts.length := by omega
    refine ⟨h, fun K => ?_, Keep.refl _ _⟩
    rw [loopK_succ]
    generalize loopK (_ : (List AV → Heap → Option (AV × Heap)) → List AV → Heap → Option (AV × Heap)) n = Lp
    have e1 : decide (((d.lasts.length : Nat) : Int) < (v.lasts.length : Nat)) = false := decide_eq_false (by rw [e.lasts]; omega)
    simp -implicitDefEqProofs only [B44_1, ↓RK, RK, ↓RB, RB, decide_true, decide_false, STs, Nat.reduceBEq, ↓reduceIte, Nat.reduceLT, ↓R44, R44, rp_chk, rpf0, rld0 hx, lens, bin_lss, e1]
  | succ m ih =>
    intro i n h hi hn D R
    obtain ⟨n, rfl⟩ : ∃ j, n = j + 1 := ⟨n - 1, by omega⟩
    obtain ⟨x, vs, hx, -, -⟩ := R.var
    have hfew := D.few
    have hlt : i < d.lasts.length := by omega
    have e1 : decide (((i : Nat) : Int) < (v.lasts.length : Nat)) = true := decide_eq_true (by rw [← e.lasts]; omega)
    have wr : IntKind.i64.wrap ((i : Int) + 1) = ((i + 1 : Nat) : Int) := by rw [wrap_i64] <;> omega
    have up := Up.fresh h
    obtain ⟨b, h1, a1, a2, a3⟩ := read_ok D hl (i : Int) (N + 2) (by omega)
    have hrd : d.read (i : Int) = ((d.now[i]?).getD [], 0) := by
      unfold Dk.read
      rw [if_pos ⟨by omega, by omega⟩, Int.toNat_natCast]
    rw [hrd] at a1 a2
    obtain ⟨c, h2, b1, b2, b3⟩ := lasts_ok (D.fresh a3) (i : Int) N
    have hla : d.lastsAt (i : Int) = (d.lasts[i], 0) := by
      unfold Dk.lastsAt
      rw [if_pos ⟨by omega, by omega⟩, Int.toNat_natCast, List.getElem?_eq_getElem hlt]
      rfl
    rw [hla] at b1 b2
    have k12 := a3.fresh b3 up
    have R2 := R.fresh k12
    obtain ⟨x2, vs2, hx2, -, -⟩ := R2.var
    have hvl : i < v.lasts.length := by rw [← e.lasts]; exact hlt
    have hvv : v.lasts[i]? = some d.lasts[i] := by rw [← e.lasts]; exact List.getElem?_eq_getElem hlt
    have hne : v.lasts ≠ [] := by intro e; rw [e] at hvl; simp at hvl
    obtain ⟨us, hu, bu⟩ := R2.row hne
    obtain ⟨u, hu1, hu2⟩ := bu.get hvv
    obtain ⟨w, c1, c2⟩ := rread_ok R2 (by rw [← e.loose]; exact hl) (i : Int) false (N + 2) (by rw [← e.loose]; omega)
    have hrr : v.rread (i : Int) = (d.now[i]?).getD [] := by
      unfold Dk.rread
      rw [if_pos ⟨by omega, by omega⟩, Int.toNat_natCast, e.now]
    rw [hrr] at c2
    have bb : Bs b ((d.now[i]?).getD []) := a2.bs
    have hc : ((d.now[i]?).getD []).length = 64 := by
      have : i < d.now.length := by rw [D.now_length]; exact hlt
      rw [List.getElem?_eq_getElem this]; exact D.now_cells _ (List.getElem_mem this)
    have hc2 := D.cells _ (List.getElem_mem hlt)
    have s1 := same_ok bb c2 (by omega) false h2 (N + 3) (by omega)
    have bc : Bs c d.lasts[i] := b2.bs
    have s2 := same_ok bc hu2 (by omega) false h2 (N + 3) (by omega)
    rw [decide_eq_true rfl] at s1 s2
    obtain ⟨h3, g1, g2⟩ := ih (i + 1) n h2 (by omega) (by omega) (D.fresh k12) R2
    refine ⟨h3, fun K => ?_, k12.fresh g2 up⟩
    rw [loopK_succ, ← g1 K]
    generalize loopK (_ : (List AV → Heap → Option (AV × Heap)) → List AV → Heap → Option (AV × Heap)) n = Lp
    have c0 : decide ((0 : Int) ≠ 0) = false := by decide
    simp -implicitDefEqProofs only [B44_1, ↓RK, RK, ↓RB, RB, decide_true, decide_false, STs, Nat.reduceBEq, ↓reduceIte, Nat.reduceLT, ↓R44, R44, rp_chk, rpf0, rld0 hx, lens, bin_lss, e1, a1, ext0, ext1, b1, neq27, c0, c1, s1, un_not, Bool.not_true, rld0 hx2, idxs r' _ i hvl, load_row hu hu1, s2, bin_add, wr]
theorem same4_ok {S U : Obs} {p r p' r' : Nat} {d v : Dk} {h : Heap} (e : DkEq d v) (hl : d.loose.length < 2 ^ 30) (D : Dsk S h p r d) (R : Rsk U h p' r' v) (k : Nat) (hk : d.loose.length + 1200 < k) :
    ∃ h', exFn C0 E0 (k + 1) false 44 [dp p, rp p'] h = some (.bool true, h') ∧ Keep (From h.length) h h' := by
  obtain ⟨k, rfl⟩ : ∃ j, k = j + 3 := ⟨k - 3, by omega⟩
  have hfew := D.few
  obtain ⟨x, vs, hx, -, -⟩ := R.var
  obtain ⟨h', g1, g2⟩ := same4_loop e hl k (by omega) d.lasts.length 0 (k + 3) h (by omega) (by omega) D R
  rw [show ((0 : Nat) : Int) = 0 from rfl] at g1
  refine ⟨h', exFn_of e44 ?_, g2⟩
  have e1 : decide (((d.lasts.length : Nat) : Int) ≠ (v.lasts.length : Nat)) = false := decide_eq_false (by rw [e.lasts]; omega)
  rw [fnK, show ([dp p, rp p'] ++ List.replicate (65 - [dp p, rp p'].length) AV.undef) = st 65 [(0, dp p), (1, rp p')] from rfl, s44]
  simp -implicitDefEqProofs only [↓RK, RK, ↓RB, RB, decide_true, decide_false, STs, Nat.reduceBEq, ↓reduceIte, Nat.reduceLT, ↓R44, R44, len_ok D, rp_chk, rpf0, rld0 hx, lens, bin_neq, e1, rdSame_refl]
  rw [g1]
  simp -implicitDefEqProofs only [↓RK, RK, ↓RB, RB, decide_true, decide_false, STs, Nat.reduceBEq, ↓reduceIte, Nat.reduceLT, ↓R44, R44]
end Go.Ax

set_option linter.unusedVariables false
namespace Go.Ax
open Go Go.Proofs
noncomputable def O10 (i : Nat) : Array Oper := opsOf i (bodyOf Try.f10)
noncomputable def B10_1 : Code := (.seq (.seq (.region 12 (O10 12) false) (.cond (Go.Operand.tmp 66) .skip (.exit 0))) (.seq (.block 1 (.seq (.region 14 (O10 14) false) (.seq (.seq (.region 15 (O10 15) false) (.cond (Go.Operand.tmp 76) (.exit 1) .skip)) (.seq (.region 16 (O10 16) false) (.seq (.seq (.region 17 (O10 17) false) (.block 2 (.seq (.region 28 (O10 28) false) (.cond (Go.Operand.tmp 129) (.region 29 (O10 29) true) (.seq (.region 30 (O10 30) false) (.cond (Go.Operand.tmp 139) (.region 31 (O10 31) true) (.seq (.region 32 (O10 32) false) (.cond (Go.Operand.tmp 149) (.seq (.region 33 (O10 33) false) (.seq (.region 34 (O10 34) false) (.seq (.region 35 (O10 35) false) (.cond (Go.Operand.tmp 162) (.region 36 (O10 36) false) .skip)))) (.seq (.seq (.region 18 (O10 18) false) (.cond (Go.Operand.tmp 81) (.seq (.region 19 (O10 19) false) (.region 20 (O10 20) false)) .skip)) (.seq (.region 21 (O10 21) false) (.seq (.region 22 (O10 22) false) (.seq (.seq (.region 23 (O10 23) false) (.cond (Go.Operand.tmp 118) (.seq (.region 24 (O10 24) false) .ret) .skip)) (.seq (.seq (.region 25 (O10 25) false) (.cond (Go.Operand.tmp 120) (.seq (.region 26 (O10 26) false) .ret) .skip)) (.region 27 (O10 27) false)))))))))))))) (.seq (.region 37 (O10 37) true) (.cond (Go.Operand.tmp 177) (.seq (.region 38 (O10 38) false) .ret) .skip))))))) (.region 13 (O10 13) false)))
theorem s10 : bodyOf Try.f10 = (.seq (.region 0 (O10 0) false) (.seq (.seq (.region 1 (O10 1) false) (.cond (Go.Operand.tmp 26) (.seq (.region 2 (O10 2) false) .ret) .skip)) (.seq (.region 3 (O10 3) false) (.seq (.region 4 (O10 4) false) (.seq (.region 5 (O10 5) false) (.seq (.region 6 (O10 6) false) (.seq (.seq (.region 7 (O10 7) false) (.cond (Go.Operand.tmp 55) (.seq (.region 8 (O10 8) false) .ret) .skip)) (.seq (.seq (.region 9 (O10 9) false) (.cond (Go.Operand.tmp 57) (.seq (.region 10 (O10 10) false) .ret) .skip)) (.seq (.seq (.region 11 (O10 11) false) (.block 0 (.loop B10_1))) (.seq (.region 39 (O10 39) false) .ret)))))))))) := by kernel_rfl
theorem e10 : E0 10 = some ⟨184, [4], bodyOf Try.f10⟩ := by kernel_rfl
theorem r10_0 (x0 x1 : AV) : RR O10 10 184 0 false [(0, x0), (1, x1)] fun _ call md k h =>
 k .normal (st 184 [(0, x0), (1, x1)]) h
 := fun _ _ _ _ _ _ => by kernel_rfl
theorem r10_1 (x0 x1 : AV) : RR O10 10 184 1 false [(0, x0), (1, x1)] fun _ call md k h =>
 bnd (aLen tab 65 x1) fun v1 =>
 bnd (aBinC tab .gtr 3 v1 (.int .i64 30) true) fun v2 =>
 k .normal (st 184 [(0, x0), (1, x1), (26, v2)]) h
 := fun _ _ _ _ _ _ => by kernel_rfl
theorem r10_2 (x0 x1 x26 : AV) : RR O10 10 184 2 false [(0, x0), (1, x1), (26, x26)] fun _ call md k h =>
 bnd2 (call md 36 [] h) fun v1 h2 =>
 k .normal (st 184 [(4, v1)]) h2
 := fun _ _ _ _ _ _ => by kernel_rfl
theorem r10_3 (x0 x1 x26 : AV) : RR O10 10 184 3 false [(0, x0), (1, x1), (26, x26)] fun _ call md k h =>
 bnd (aBinC tab .rem 5 x0 (.int .u8 120) true) fun v1 =>
 bnd (aConv tab 5 3 v1 h) fun v2 =>
 k .normal (st 184 [(1, x1), (5, v2)]) h
 := fun _ _ _ _ _ _ => by kernel_rfl
theorem r10_4 (x1 x5 : AV) : RR O10 10 184 4 false [(1, x1), (5, x5)] fun _ call md k h =>
 bnd2 (call md 13 [x5] h) fun v1 h2 =>
 bnd2 (call md 39 [x5] h2) fun v3 h4 =>
 k .normal (st 184 [(1, x1), (6, v1), (7, v3)]) h4
 := fun _ _ _ _ _ _ => by kernel_rfl
theorem r10_5 (x1 x6 x7 : AV) : RR O10 10 184 5 false [(1, x1), (6, x6), (7, x7)] fun _ call md k h =>
 bnd2 (call md 31 [x6] h) fun v1 h2 =>
 bnd (aExtract v1 0) fun v3 =>
 bnd (aExtract v1 1) fun v4 =>
 bnd (aExtract v1 2) fun v5 =>
 k .normal (st 184 [(1, x1), (6, x6), (7, x7), (8, v3), (9, v4), (10, v5)]) h2
 := fun _ _ _ _ _ _ => by kernel_rfl
theorem r10_6 (x1 x6 x7 x8 x9 x10 : AV) : RR O10 10 184 6 false [(1, x1), (6, x6), (7, x7), (8, x8), (9, x9), (10, x10)] fun _ call md k h =>
 bnd2 (call md 40 [x7] h) fun v1 h2 =>
 bnd (aExtract v1 0) fun v3 =>
 bnd (aExtract v1 1) fun v4 =>
 bnd (aExtract v1 2) fun v5 =>
 k .normal (st 184 [(1, x1), (6, x6), (7, x7), (8, x8), (9, x9), (10, x10), (11, v3), (12, v4), (13, v5)]) h2
 := fun _ _ _ _ _ _ => by kernel_rfl
theorem r10_7 (x1 x6 x7 x8 x9 x10 x11 x12 x13 : AV) : RR O10 10 184 7 false [(1, x1), (6, x6), (7, x7), (8, x8), (9, x9), (10, x10), (11, x11), (12, x12), (13, x13)] fun _ call md k h =>
 bnd (aBinC tab .neq 27 x10 x13 false) fun v1 =>
 gd false v1 h (fun k => k x9 h) fun v2 h3 =>
 gd false v1 h3 (fun k => k x12 h3) fun v4 h5 =>
 gd false v1 h5 (fun k => bnd2 (call md 16 [v2, v4] h5) k) fun v6 h7 =>
 gd false v1 h7 (fun k => bnd (aUn .not v6) (k · h7)) fun v8 h9 =>
 bnd (aPick v1 (.bool true) v8) fun v10 =>
 k .normal (st 184 [(1, x1), (6, x6), (7, x7), (8, x8), (10, x10), (11, x11), (55, v10)]) h9
 := fun _ _ _ _ _ _ => by kernel_rfl
theorem r10_8 (x1 x6 x7 x8 x10 x11 x55 : AV) : RR O10 10 184 8 false [(1, x1), (6, x6), (7, x7), (8, x8), (10, x10), (11, x11), (55, x55)] fun _ call md k h =>
 k .normal (st 184 [(4, (.bool false))]) h
 := fun _ _ _ _ _ _ => by kernel_rfl
theorem r10_9 (x1 x6 x7 x8 x10 x11 x55 : AV) : RR O10 10 184 9 false [(1, x1), (6, x6), (7, x7), (8, x8), (10, x10), (11, x11), (55, x55)] fun _ call md k h =>
 bnd (aBinC tab .neq 27 x10 (.int .i64 0) true) fun v1 =>
 k .normal (st 184 [(1, x1), (6, x6), (7, x7), (8, x8), (11, x11), (57, v1)]) h
 := fun _ _ _ _ _ _ => by kernel_rfl
theorem r10_10 (x1 x6 x7 x8 x11 x57 : AV) : RR O10 10 184 10 false [(1, x1), (6, x6), (7, x7), (8, x8), (11, x11), (57, x57)] fun _ call md k h =>
 bnd2 (call md 36 [] h) fun v1 h2 =>
 gd true v1 h2 (fun k => k x8 h2) fun v3 h4 =>
 gd true v1 h4 (fun k => bnd (aBinC tab .eql 57 v3 .nilp true) (k · h4)) fun v5 h6 =>
 bnd (aPick v1 v5 (.bool false)) fun v7 =>
 k .normal (st 184 [(4, v7)]) h6
 := fun _ _ _ _ _ _ => by kernel_rfl
theorem r10_11 (x1 x6 x7 x8 x11 x57 : AV) : RR O10 10 184 11 false [(1, x1), (6, x6), (7, x7), (8, x8), (11, x11), (57, x57)] fun _ call md k h =>
 k .normal (st 184 [(1, x1), (6, x6), (7, x7), (8, x8), (11, x11), (14, (.int .i64 0))]) h
 := fun _ _ _ _ _ _ => by kernel_rfl
theorem r10_12 (x1 x6 x7 x8 x11 x14 : AV) : RR O10 10 184 12 false [(1, x1), (6, x6), (7, x7), (8, x8), (11, x11), (14, x14)] fun _ call md k h =>
 bnd (aLen tab 65 x1) fun v1 =>
 bnd (aBinC tab .lss 3 x14 v1 false) fun v2 =>
 k .normal (st 184 [(1, x1), (6, x6), (7, x7), (8, x8), (11, x11), (14, x14), (66, v2)]) h
 := fun _ _ _ _ _ _ => by kernel_rfl
theorem r10_13a (x1 x6 x7 x8 x11 x14 x15 x76 : AV) : RR O10 10 184 13 false [(1, x1), (6, x6), (7, x7), (8, x8), (11, x11), (14, x14), (15, x15), (76, x76)] fun _ call md k h =>
 bnd (aBinC tab .add 3 x14 (.int .i64 1) true) fun v1 =>
 k .normal (st 184 [(1, x1), (6, x6), (7, x7), (8, x8), (11, x11), (14, v1)]) h
 := fun _ _ _ _ _ _ => by kernel_rfl
theorem r10_13b (x1 x6 x7 x8 x11 x14 x177 : AV) : RR O10 10 184 13 false [(1, x1), (6, x6), (7, x7), (8, x8), (11, x11), (14, x14), (177, x177)] fun _ call md k h =>
 bnd (aBinC tab .add 3 x14 (.int .i64 1) true) fun v1 =>
 k .normal (st 184 [(1, x1), (6, x6), (7, x7), (8, x8), (11, x11), (14, v1)]) h
 := fun _ _ _ _ _ _ => by kernel_rfl
theorem r10_14 (x1 x6 x7 x8 x11 x14 x66 : AV) : RR O10 10 184 14 false [(1, x1), (6, x6), (7, x7), (8, x8), (11, x11), (14, x14), (66, x66)] fun _ call md k h =>
 bnd (aIndexAddr tab 65 x1 x14) fun v1 =>
 bnd (aLoad tab 71 v1 h) fun v2 =>
 bnd2 (aAlloc tab 71 h) fun v3 h4 =>
 bnd (aStore tab 71 v3 v2 h4) fun h5 =>
 k .normal (st 184 [(1, x1), (6, x6), (7, x7), (8, x8), (11, x11), (14, x14), (15, v3)]) h5
 := fun _ _ _ _ _ _ => by kernel_rfl
theorem r10_15 (x1 x6 x7 x8 x11 x14 x15 : AV) : RR O10 10 184 15 false [(1, x1), (6, x6), (7, x7), (8, x8), (11, x11), (14, x14), (15, x15)] fun _ call md k h =>
 bnd (aFieldAddr tab 71 x15 3) fun v1 =>
 bnd (aLoad tab 22 v1 h) fun v2 =>
 bnd (aLen tab 22 v2) fun v3 =>
 bnd (aBinC tab .gtr 3 v3 (.int .i64 9000) true) fun v4 =>
 k .normal (st 184 [(1, x1), (6, x6), (7, x7), (8, x8), (11, x11), (14, x14), (15, x15), (76, v4)]) h
 := fun _ _ _ _ _ _ => by kernel_rfl
theorem r10_16 (x1 x6 x7 x8 x11 x14 x15 x76 : AV) : RR O10 10 184 16 false [(1, x1), (6, x6), (7, x7), (8, x8), (11, x11), (14, x14), (15, x15), (76, x76)] fun _ call md k h =>
 k .normal (st 184 [(1, x1), (6, x6), (7, x7), (8, x8), (11, x11), (14, x14), (15, x15), (16, (.int .i64 0)), (17, (.int .i64 0))]) h
 := fun _ _ _ _ _ _ => by kernel_rfl
theorem r10_17 (x1 x6 x7 x8 x11 x14 x15 x16 x17 : AV) : RR O10 10 184 17 false [(1, x1), (6, x6), (7, x7), (8, x8), (11, x11), (14, x14), (15, x15), (16, x16), (17, x17)] fun _ call md k h =>
 bnd (aFieldAddr tab 71 x15 0) fun v1 =>
 bnd (aLoad tab 3 v1 h) fun v2 =>
 k .normal (st 184 [(1, x1), (6, x6), (7, x7), (8, x8), (11, x11), (14, x14), (15, x15), (16, x16), (17, x17), (78, v2)]) h
 := fun _ _ _ _ _ _ => by kernel_rfl
theorem r10_18 (x1 x6 x7 x8 x11 x14 x15 x16 x17 x149 : AV) : RR O10 10 184 18 false [(1, x1), (6, x6), (7, x7), (8, x8), (11, x11), (14, x14), (15, x15), (16, x16), (17, x17), (149, x149)] fun _ call md k h =>
 bnd (aFieldAddr tab 71 x15 0) fun v1 =>
 bnd (aLoad tab 3 v1 h) fun v2 =>
 bnd (aBinC tab .eql 3 v2 (.int .i64 2) true) fun v3 =>
 k .normal (st 184 [(1, x1), (6, x6), (7, x7), (14, x14), (15, x15), (16, x16), (17, x17), (81, v3)]) h
 := fun _ _ _ _ _ _ => by kernel_rfl
theorem r10_19 (x1 x6 x7 x14 x15 x16 x17 x81 : AV) : RR O10 10 184 19 false [(1, x1), (6, x6), (7, x7), (14, x14), (15, x15), (16, x16), (17, x17), (81, x81)] fun _ call md k h =>
 bnd (aFieldAddr tab 71 x15 4) fun v1 =>
 bnd (aLoad tab 44 v1 h) fun v2 =>
 bnd (aFieldAddr tab 71 x15 1) fun v3 =>
 bnd (aLoad tab 3 v3 h) fun v4 =>
 bnd (aFieldAddr tab 71 x15 2) fun v5 =>
 bnd (aLoad tab 3 v5 h) fun v6 =>
 bnd2 (call md 25 [x6, v2, v4, v6] h) fun v7 h8 =>
 k .normal (st 184 [(1, x1), (6, x6), (7, x7), (14, x14), (15, x15), (16, x16), (17, x17)]) h8
 := fun _ _ _ _ _ _ => by kernel_rfl
theorem r10_20 (x1 x6 x7 x14 x15 x16 x17 : AV) : RR O10 10 184 20 false [(1, x1), (6, x6), (7, x7), (14, x14), (15, x15), (16, x16), (17, x17)] fun _ call md k h =>
 bnd (aFieldAddr tab 71 x15 4) fun v1 =>
 bnd (aLoad tab 44 v1 h) fun v2 =>
 bnd (aFieldAddr tab 71 x15 1) fun v3 =>
 bnd (aLoad tab 3 v3 h) fun v4 =>
 bnd (aFieldAddr tab 71 x15 2) fun v5 =>
 bnd (aLoad tab 3 v5 h) fun v6 =>
 bnd2 (call md 43 [x7, v2, v4, v6] h) fun v7 h8 =>
 k .normal (st 184 [(1, x1), (6, x6), (7, x7), (14, x14), (16, x16), (17, x17)]) h8
 := fun _ _ _ _ _ _ => by kernel_rfl
theorem r10_21a (x1 x6 x7 x14 x15 x16 x17 x81 : AV) : RR O10 10 184 21 false [(1, x1), (6, x6), (7, x7), (14, x14), (15, x15), (16, x16), (17, x17), (81, x81)] fun _ call md k h =>
 bnd2 (call md 31 [x6] h) fun v1 h2 =>
 bnd (aExtract v1 0) fun v3 =>
 bnd (aExtract v1 1) fun v4 =>
 bnd (aExtract v1 2) fun v5 =>
 k .normal (st 184 [(1, x1), (6, x6), (7, x7), (14, x14), (16, x16), (17, x17), (18, v3), (19, v4), (20, v5)]) h2
 := fun _ _ _ _ _ _ => by kernel_rfl
theorem r10_21b (x1 x6 x7 x14 x16 x17 : AV) : RR O10 10 184 21 false [(1, x1), (6, x6), (7, x7), (14, x14), (16, x16), (17, x17)] fun _ call md k h =>
 bnd2 (call md 31 [x6] h) fun v1 h2 =>
 bnd (aExtract v1 0) fun v3 =>
 bnd (aExtract v1 1) fun v4 =>
 bnd (aExtract v1 2) fun v5 =>
 k .normal (st 184 [(1, x1), (6, x6), (7, x7), (14, x14), (16, x16), (17, x17), (18, v3), (19, v4), (20, v5)]) h2
 := fun _ _ _ _ _ _ => by kernel_rfl
theorem r10_22 (x1 x6 x7 x14 x16 x17 x18 x19 x20 : AV) : RR O10 10 184 22 false [(1, x1), (6, x6), (7, x7), (14, x14), (16, x16), (17, x17), (18, x18), (19, x19), (20, x20)] fun _ call md k h =>
 bnd2 (call md 40 [x7] h) fun v1 h2 =>
 bnd (aExtract v1 0) fun v3 =>
 bnd (aExtract v1 1) fun v4 =>
 bnd (aExtract v1 2) fun v5 =>
 k .normal (st 184 [(1, x1), (6, x6), (7, x7), (14, x14), (16, x16), (17, x17), (18, x18), (19, x19), (20, x20), (21, v3), (22, v4), (23, v5)]) h2
 := fun _ _ _ _ _ _ => by kernel_rfl
theorem r10_23 (x1 x6 x7 x14 x16 x17 x18 x19 x20 x21 x22 x23 : AV) : RR O10 10 184 23 false [(1, x1), (6, x6), (7, x7), (14, x14), (16, x16), (17, x17), (18, x18), (19, x19), (20, x20), (21, x21), (22, x22), (23, x23)] fun _ call md k h =>
 bnd (aBinC tab .neq 27 x20 x23 false) fun v1 =>
 gd false v1 h (fun k => k x19 h) fun v2 h3 =>
 gd false v1 h3 (fun k => k x22 h3) fun v4 h5 =>
 gd false v1 h5 (fun k => bnd2 (call md 16 [v2, v4] h5) k) fun v6 h7 =>
 gd false v1 h7 (fun k => bnd (aUn .not v6) (k · h7)) fun v8 h9 =>
 bnd (aPick v1 (.bool true) v8) fun v10 =>
 k .normal (st 184 [(1, x1), (6, x6), (7, x7), (14, x14), (16, x16), (17, x17), (18, x18), (20, x20), (21, x21), (118, v10)]) h9
 := fun _ _ _ _ _ _ => by kernel_rfl
theorem r10_24 (x1 x6 x7 x14 x16 x17 x18 x20 x21 x118 : AV) : RR O10 10 184 24 false [(1, x1), (6, x6), (7, x7), (14, x14), (16, x16), (17, x17), (18, x18), (20, x20), (21, x21), (118, x118)] fun _ call md k h =>
 k .normal (st 184 [(4, (.bool false))]) h
 := fun _ _ _ _ _ _ => by kernel_rfl
theorem r10_25 (x1 x6 x7 x14 x16 x17 x18 x20 x21 x118 : AV) : RR O10 10 184 25 false [(1, x1), (6, x6), (7, x7), (14, x14), (16, x16), (17, x17), (18, x18), (20, x20), (21, x21), (118, x118)] fun _ call md k h =>
 bnd (aBinC tab .neq 27 x20 (.int .i64 0) true) fun v1 =>
 k .normal (st 184 [(1, x1), (6, x6), (7, x7), (14, x14), (16, x16), (17, x17), (18, x18), (21, x21), (120, v1)]) h
 := fun _ _ _ _ _ _ => by kernel_rfl
theorem r10_26 (x1 x6 x7 x14 x16 x17 x18 x21 x120 : AV) : RR O10 10 184 26 false [(1, x1), (6, x6), (7, x7), (14, x14), (16, x16), (17, x17), (18, x18), (21, x21), (120, x120)] fun _ call md k h =>
 bnd2 (call md 36 [] h) fun v1 h2 =>
 gd true v1 h2 (fun k => k x6 h2) fun v3 h4 =>
 gd true v1 h4 (fun k => k x7 h4) fun v5 h6 =>
 gd true v1 h6 (fun k => bnd2 (call md 44 [v3, v5] h6) k) fun v7 h8 =>
 bnd (aPick v1 v7 (.bool false)) fun v9 =>
 k .normal (st 184 [(4, v9)]) h8
 := fun _ _ _ _ _ _ => by kernel_rfl
theorem r10_27 (x1 x6 x7 x14 x16 x17 x18 x21 x120 : AV) : RR O10 10 184 27 false [(1, x1), (6, x6), (7, x7), (14, x14), (16, x16), (17, x17), (18, x18), (21, x21), (120, x120)] fun _ call md k h =>
 k .normal (st 184 [(1, x1), (6, x6), (7, x7), (8, x18), (11, x21), (14, x14), (16, x16), (17, x17)]) h
 := fun _ _ _ _ _ _ => by kernel_rfl
theorem r10_28 (x1 x6 x7 x8 x11 x14 x15 x16 x17 x78 : AV) : RR O10 10 184 28 false [(1, x1), (6, x6), (7, x7), (8, x8), (11, x11), (14, x14), (15, x15), (16, x16), (17, x17), (78, x78)] fun _ call md k h =>
 bnd (aBinC tab .eql 3 x78 (.int .i64 0) true) fun v1 =>
 k .normal (st 184 [(1, x1), (6, x6), (7, x7), (8, x8), (11, x11), (14, x14), (15, x15), (16, x16), (17, x17), (78, x78), (129, v1)]) h
 := fun _ _ _ _ _ _ => by kernel_rfl
theorem r10_29 (x1 x6 x7 x8 x11 x14 x15 x16 x17 x78 x129 : AV) : RR O10 10 184 29 true [(1, x1), (6, x6), (7, x7), (8, x8), (11, x11), (14, x14), (15, x15), (16, x16), (17, x17), (78, x78), (129, x129)] fun _ call md k h =>
 bnd (aFieldAddr tab 71 x15 3) fun v1 =>
 bnd (aLoad tab 22 v1 h) fun v2 =>
 bnd2 (call md 33 [x8, v2] h) fun v3 h4 =>
 bnd (aFieldAddr tab 71 x15 3) fun v5 =>
 bnd (aLoad tab 22 v5 h4) fun v6 =>
 bnd2 (call md 41 [x11, v6] h4) fun v7 h8 =>
 onT (rdSame (aLoad tab 22 v5 h) v6) <|
 k .normal (st 184 [(1, x1), (6, x6), (7, x7), (8, x8), (11, x11), (14, x14), (16, v3), (17, v7)]) h8
 := RRp [(6, 3)] (by kernel_rfl) (by kernel_rfl) (fun _ _ _ _ _ => by kernel_rfl)
theorem r10_30 (x1 x6 x7 x8 x11 x14 x15 x16 x17 x78 x129 : AV) : RR O10 10 184 30 false [(1, x1), (6, x6), (7, x7), (8, x8), (11, x11), (14, x14), (15, x15), (16, x16), (17, x17), (78, x78), (129, x129)] fun _ call md k h =>
 bnd (aBinC tab .eql 3 x78 (.int .i64 1) true) fun v1 =>
 k .normal (st 184 [(1, x1), (6, x6), (7, x7), (8, x8), (11, x11), (14, x14), (15, x15), (16, x16), (17, x17), (78, x78), (139, v1)]) h
 := fun _ _ _ _ _ _ => by kernel_rfl
theorem r10_31 (x1 x6 x7 x8 x11 x14 x15 x16 x17 x78 x139 : AV) : RR O10 10 184 31 true [(1, x1), (6, x6), (7, x7), (8, x8), (11, x11), (14, x14), (15, x15), (16, x16), (17, x17), (78, x78), (139, x139)] fun _ call md k h =>
 bnd (aFieldAddr tab 71 x15 3) fun v1 =>
 bnd (aLoad tab 22 v1 h) fun v2 =>
 bnd2 (call md 35 [x8, v2] h) fun v3 h4 =>
 bnd (aFieldAddr tab 71 x15 3) fun v5 =>
 bnd (aLoad tab 22 v5 h4) fun v6 =>
 bnd2 (call md 42 [x11, v6] h4) fun v7 h8 =>
 onT (rdSame (aLoad tab 22 v5 h) v6) <|
 k .normal (st 184 [(1, x1), (6, x6), (7, x7), (8, x8), (11, x11), (14, x14), (16, v3), (17, v7)]) h8
 := RRp [(6, 3)] (by kernel_rfl) (by kernel_rfl) (fun _ _ _ _ _ => by kernel_rfl)
theorem r10_32 (x1 x6 x7 x8 x11 x14 x15 x16 x17 x78 x139 : AV) : RR O10 10 184 32 false [(1, x1), (6, x6), (7, x7), (8, x8), (11, x11), (14, x14), (15, x15), (16, x16), (17, x17), (78, x78), (139, x139)] fun _ call md k h =>
 bnd (aBinC tab .eql 3 x78 (.int .i64 3) true) fun v1 =>
 k .normal (st 184 [(1, x1), (6, x6), (7, x7), (8, x8), (11, x11), (14, x14), (15, x15), (16, x16), (17, x17), (149, v1)]) h
 := fun _ _ _ _ _ _ => by kernel_rfl
theorem r10_33 (x1 x6 x7 x8 x11 x14 x15 x16 x17 x149 : AV) : RR O10 10 184 33 false [(1, x1), (6, x6), (7, x7), (8, x8), (11, x11), (14, x14), (15, x15), (16, x16), (17, x17), (149, x149)] fun _ call md k h =>
 bnd (aFieldAddr tab 71 x15 1) fun v1 =>
 bnd (aLoad tab 3 v1 h) fun v2 =>
 bnd2 (call md 24 [x6, v2] h) fun v3 h4 =>
 k .normal (st 184 [(1, x1), (6, x6), (7, x7), (8, x8), (11, x11), (14, x14), (15, x15), (16, x16), (17, x17)]) h4
 := fun _ _ _ _ _ _ => by kernel_rfl
theorem r10_34 (x1 x6 x7 x8 x11 x14 x15 x16 x17 : AV) : RR O10 10 184 34 false [(1, x1), (6, x6), (7, x7), (8, x8), (11, x11), (14, x14), (15, x15), (16, x16), (17, x17)] fun _ call md k h =>
 bnd (aFieldAddr tab 71 x15 1) fun v1 =>
 bnd (aLoad tab 3 v1 h) fun v2 =>
 bnd (aNil x7) fun v3 =>
 bnd (aFieldAddr tab 74 v3 2) fun v4 =>
 bnd (aStore tab 3 v4 v2 h) fun h5 =>
 k .normal (st 184 [(1, x1), (6, x6), (7, x7), (8, x8), (11, x11), (14, x14), (15, x15), (16, x16), (17, x17)]) h5
 := fun _ _ _ _ _ _ => by kernel_rfl
theorem r10_35 (x1 x6 x7 x8 x11 x14 x15 x16 x17 : AV) : RR O10 10 184 35 false [(1, x1), (6, x6), (7, x7), (8, x8), (11, x11), (14, x14), (15, x15), (16, x16), (17, x17)] fun _ call md k h =>
 bnd (aFieldAddr tab 71 x15 1) fun v1 =>
 bnd (aLoad tab 3 v1 h) fun v2 =>
 bnd (aBinC tab .lss 3 v2 (.int .i64 0) true) fun v3 =>
 k .normal (st 184 [(1, x1), (6, x6), (7, x7), (8, x8), (11, x11), (14, x14), (16, x16), (17, x17), (162, v3)]) h
 := fun _ _ _ _ _ _ => by kernel_rfl
theorem r10_36 (x1 x6 x7 x8 x11 x14 x16 x17 x162 : AV) : RR O10 10 184 36 false [(1, x1), (6, x6), (7, x7), (8, x8), (11, x11), (14, x14), (16, x16), (17, x17), (162, x162)] fun _ call md k h =>
 bnd (aNil x7) fun v1 =>
 bnd (aFieldAddr tab 74 v1 2) fun v2 =>
 bnd (aStore tab 3 v2 (.int .i64 0) h) fun h3 =>
 k .normal (st 184 [(1, x1), (6, x6), (7, x7), (8, x8), (11, x11), (14, x14), (16, x16), (17, x17)]) h3
 := fun _ _ _ _ _ _ => by kernel_rfl
theorem r10_37a (x1 x6 x7 x8 x11 x14 x16 x17 x162 : AV) : RR O10 10 184 37 true [(1, x1), (6, x6), (7, x7), (8, x8), (11, x11), (14, x14), (16, x16), (17, x17), (162, x162)] fun _ call md k h =>
 bnd (aBinC tab .neq 27 x16 x17 false) fun v1 =>
 gd false v1 h (fun k => k x8 h) fun v2 h3 =>
 gd false v1 h3 (fun k => bnd2 (call md 37 [v2] h3) k) fun v4 h5 =>
 gd false v1 h5 (fun k => k x11 h5) fun v6 h7 =>
 gd false v1 h7 (fun k => bnd (aNil v6) (k · h7)) fun v8 h9 =>
 gd false v1 h9 (fun k => bnd (aFieldAddr tab 76 v8 1) (k · h9)) fun v10 h11 =>
 gd false v1 h11 (fun k => bnd (aLoad tab 3 v10 h11) (k · h11)) fun v12 h13 =>
 gd false v1 h13 (fun k => bnd (aBinC tab .neq 3 v4 v12 false) (k · h13)) fun v14 h15 =>
 bnd (aPick v1 (.bool true) v14) fun v16 =>
 onT (okG false v1 (rdSame (aLoad tab 3 v10 h3) v12)) <|
 k .normal (st 184 [(1, x1), (6, x6), (7, x7), (8, x8), (11, x11), (14, x14), (177, v16)]) h15
 := RRp [(9, 5)] (by kernel_rfl) (by kernel_rfl) (fun _ _ _ _ _ => by kernel_rfl)
theorem r10_37b (x1 x6 x7 x8 x11 x14 x16 x17 : AV) : RR O10 10 184 37 true [(1, x1), (6, x6), (7, x7), (8, x8), (11, x11), (14, x14), (16, x16), (17, x17)] fun _ call md k h =>
 bnd (aBinC tab .neq 27 x16 x17 false) fun v1 =>
 gd false v1 h (fun k => k x8 h) fun v2 h3 =>
 gd false v1 h3 (fun k => bnd2 (call md 37 [v2] h3) k) fun v4 h5 =>
 gd false v1 h5 (fun k => k x11 h5) fun v6 h7 =>
 gd false v1 h7 (fun k => bnd (aNil v6) (k · h7)) fun v8 h9 =>
 gd false v1 h9 (fun k => bnd (aFieldAddr tab 76 v8 1) (k · h9)) fun v10 h11 =>
 gd false v1 h11 (fun k => bnd (aLoad tab 3 v10 h11) (k · h11)) fun v12 h13 =>
 gd false v1 h13 (fun k => bnd (aBinC tab .neq 3 v4 v12 false) (k · h13)) fun v14 h15 =>
 bnd (aPick v1 (.bool true) v14) fun v16 =>
 onT (okG false v1 (rdSame (aLoad tab 3 v10 h3) v12)) <|
 k .normal (st 184 [(1, x1), (6, x6), (7, x7), (8, x8), (11, x11), (14, x14), (177, v16)]) h15
 := RRp [(9, 5)] (by kernel_rfl) (by kernel_rfl) (fun _ _ _ _ _ => by kernel_rfl)
theorem r10_38 (x1 x6 x7 x8 x11 x14 x177 : AV) : RR O10 10 184 38 false [(1, x1), (6, x6), (7, x7), (8, x8), (11, x11), (14, x14), (177, x177)] fun _ call md k h =>
 k .normal (st 184 [(4, (.bool false))]) h
 := fun _ _ _ _ _ _ => by kernel_rfl
theorem r10_39 (x1 x6 x7 x8 x11 x14 x66 : AV) : RR O10 10 184 39 false [(1, x1), (6, x6), (7, x7), (8, x8), (11, x11), (14, x14), (66, x66)] fun _ call md k h =>
 bnd2 (call md 36 [] h) fun v1 h2 =>
 gd true v1 h2 (fun k => k x6 h2) fun v3 h4 =>
 gd true v1 h4 (fun k => k x7 h4) fun v5 h6 =>
 gd true v1 h6 (fun k => bnd2 (call md 44 [v3, v5] h6) k) fun v7 h8 =>
 bnd (aPick v1 v7 (.bool false)) fun v9 =>
 k .normal (st 184 [(4, v9)]) h8
 := fun _ _ _ _ _ _ => by kernel_rfl
def R10 := And.intro @r10_0 <| And.intro @r10_1 <| And.intro @r10_2 <| And.intro @r10_3 <| And.intro @r10_4 <| And.intro @r10_5 <| And.intro @r10_6 <| And.intro @r10_7 <| And.intro @r10_8 <| And.intro @r10_9 <| And.intro @r10_10 <| And.intro @r10_11 <| And.intro @r10_12 <| And.intro @r10_13a <| And.intro @r10_13b <| And.intro @r10_14 <| And.intro @r10_15 <| And.intro @r10_16 <| And.intro @r10_17 <| And.intro @r10_18 <| And.intro @r10_19 <| And.intro @r10_20 <| And.intro @r10_21a <| And.intro @r10_21b <| And.intro @r10_22 <| And.intro @r10_23 <| And.intro @r10_24 <| And.intro @r10_25 <| And.intro @r10_26 <| And.intro @r10_27 <| And.intro @r10_28 <| And.intro @r10_29 <| And.intro @r10_30 <| And.intro @r10_31 <| And.intro @r10_32 <| And.intro @r10_33 <| And.intro @r10_34 <| And.intro @r10_35 <| And.intro @r10_36 <| And.intro @r10_37a <| And.intro @r10_37b <| And.intro @r10_38 <| @r10_39
end Go.Ax

namespace Go.Ax
open Go Go.Proofs
inductive DosL : List AV → List Ac → Prop
  | nil : DosL [] []
  | cons {x a vs cs} : Bs x a.b → a.keep < 2 ^ 64 → a.n < 2 ^ 63 → DosL vs cs → DosL (.agg 70 [.int .i64 a.what, .int .i64 a.n, .int .i64 a.at', x, .int .u64 a.keep] :: vs) (a :: cs)
theorem DosL.length : ∀ {l : List AV} {m : List Ac}, DosL l m → l.length = m.length
  | _, _, .nil => rfl
  | _, _, .cons _ _ _ t => by simp [DosL.length t]
theorem DosL.get : ∀ {vs : List AV} {cs : List Ac}, DosL vs cs → ∀ {i : Nat} {a : Ac}, cs[i]? = some a → ∃ x, vs[i]? = some (.agg 70 [.int .i64 a.what, .int .i64 a.n, .int .i64 a.at', x, .int .u64 a.keep]) ∧ Bs x a.b ∧ a.keep < 2 ^ 64 ∧ a.n < 2 ^ 63
  | _, _, .nil, i, l, h => by simp at h
  | _, _, .cons a b c t, 0, l, h => by simp at h; subst h; exact ⟨_, rfl, a, b, c⟩
  | _, _, .cons _ _ _ t, i + 1, l, h => by simpa using t.get (i := i) (by simpa using h)
theorem len65 (l : List AV) (k : Tok) : aLen tab 65 (.vsl 70 l k) = some (.int .i64 l.length) := by simp [aLen]
theorem idx65 {l : List AV} {k : Tok} {i : Nat} {v : AV} (hi : l[i]? = some v) : aIndexAddr tab 65 (.vsl 70 l k) (.int .i64 i) = some (.vptr 70 v) := by simp [aIndexAddr, hi]
theorem load71v (h : Heap) (v : AV) : aLoad tab 71 (.vptr 70 v) h = some v := by simp [aLoad]
theorem alloc71 (h : Heap) : aAlloc tab 71 h = some (.ref h.length [] 70, h ++ [.var 71 (.agg 70 [.int .i64 0, .int .i64 0, .int .i64 0, .nils, .int .u64 0])]) := by kernel_rfl
theorem sn71 (h : Heap) (a b c k : Int) (x : AV) (hx : fits tab 22 x = true) : aStore tab 71 (.ref h.length [] 70) (.agg 70 [.int .i64 a, .int .i64 b, .int .i64 c, x, .int .u64 k]) (h ++ [.var 71 (.agg 70 [.int .i64 0, .int .i64 0, .int .i64 0, .nils, .int .u64 0])]) =
    some (h ++ [.var 71 (.agg 70 [.int .i64 a, .int .i64 b, .int .i64 c, x, .int .u64 k])]) := store_new (by simp) (by simp [fits])
theorem fa71_0 (q : Nat) : aFieldAddr tab 71 (.ref q [] 70) 0 = some (.ref q [0] 3) := by simp [aFieldAddr]
theorem fa71_1 (q : Nat) : aFieldAddr tab 71 (.ref q [] 70) 1 = some (.ref q [1] 3) := by simp [aFieldAddr]
theorem fa71_2 (q : Nat) : aFieldAddr tab 71 (.ref q [] 70) 2 = some (.ref q [2] 3) := by simp [aFieldAddr]
theorem fa71_3 (q : Nat) : aFieldAddr tab 71 (.ref q [] 70) 3 = some (.ref q [3] 22) := by simp [aFieldAddr]
theorem fa71_4 (q : Nat) : aFieldAddr tab 71 (.ref q [] 70) 4 = some (.ref q [4] 44) := by simp [aFieldAddr]
section
variable {h : Heap} {q : Nat} {a b c x k : AV} (hq : h[q]? = some (.var 71 (.agg 70 [a, b, c, x, k])))
include hq
theorem ld71_0 : aLoad tab 3 (.ref q [0] 3) h = some a := load_fld (i := 0) hq rfl (by simp)
theorem ld71_1 : aLoad tab 3 (.ref q [1] 3) h = some b := load_fld (i := 1) hq rfl (by simp)
theorem ld71_2 : aLoad tab 3 (.ref q [2] 3) h = some c := load_fld (i := 2) hq rfl (by simp)
theorem ld71_3 : aLoad tab 22 (.ref q [3] 22) h = some x := load_fld (i := 3) hq rfl (by simp)
theorem ld71_4 : aLoad tab 44 (.ref q [4] 44) h = some k := load_fld (i := 4) hq rfl (by simp)
end
theorem Duo.alloc {b : Nat} {F : Obs} {h h' : Heap} {q p r q' p' r' : Nat} {w v : Wl} (D : Duo b F h q p r q' p' r' w v) (k : Keep (From h.length) h h') : Duo b (fun i => F i ∨ (h.length ≤ i ∧ i < h'.length)) h' q p r q' p' r' w v := by
  obtain ⟨S1, S2, A, L, R⟩ := D
  exact ⟨S1, S2, A.alloc k, L.fresh k, R.fresh k⟩
theorem Duo.forget {b : Nat} {F G : Obs} {h : Heap} {q p r q' p' r' : Nat} {w v : Wl} (D : Duo b F h q p r q' p' r' w v) (hG : ∀ i, G i → F i) : Duo b G h q p r q' p' r' w v := by
  obtain ⟨S1, S2, A, L, R⟩ := D
  exact ⟨S1, S2, A.forget hG, L, R⟩
theorem Duo.fuse {b : Nat} {F : Obs} {h : Heap} {q p r q' p' r' : Nat} {w v : Wl} (D : Duo b F h q p r q' p' r' w v) (l : Like w v) (n : Int) (hn : n < 2 ^ 63) (k : Nat) :
    ∃ h1 h2, exFn C0 E0 (k + 1) false 24 [dp p, .int .i64 n] h = some (.tuple [], h1) ∧ aStore tab 3 (.ref p' [2] 3) (.int .i64 n) h1 = some h2 ∧ Keep (Zone b F h) h h1 ∧ Keep (Zone b F h) h h2 ∧
      Like ⟨w.d.setFuse n, w.gen, w.pos, w.down⟩ ⟨v.d.setFuse n, v.gen, v.pos, v.down⟩ ∧
      (¬ n < 0 → Duo b F h2 q p r q' p' r' ⟨w.d.setFuse n, w.gen, w.pos, w.down⟩ ⟨v.d.setFuse n, v.gen, v.pos, v.down⟩) ∧
      (n < 0 → ∃ h3, aStore tab 3 (.ref p' [2] 3) (.int .i64 0) h2 = some h3 ∧ Keep (Zone b F h) h h3 ∧ Duo b F h3 q p r q' p' r' ⟨w.d.setFuse n, w.gen, w.pos, w.down⟩ ⟨v.d.setFuse n, v.gen, v.pos, v.down⟩) := by
  obtain ⟨S1, S2, A, L, R⟩ := D
  have L0 := L.mono (U := Out S1 h) fun i hi => .inl hi
  obtain ⟨h1, g1, P1, k1⟩ := fuse_ok L0.dsk n false k
  have L1 : Lsk (Out S1 h) h1 q p r ⟨w.d.setFuse n, w.gen, w.pos, w.down⟩ := ⟨L0.hq, by rw [k1.2 q (fun h => h.2 rfl)]; exact L0.var, P1⟩
  have k1' := k1.mono (U := Out S1 h) fun i hi => hi.1
  obtain ⟨A1, z1, dj⟩ := A.op1 k1'
  have R1 := (R.keep k1' dj).mono (U := Out S2 h1) fun i hi => .inl hi
  obtain ⟨h2, s1, k2, c1, c2⟩ := rfuse_ok R1.dsk n
  have k2' := k2.mono (U := Out S2 h1) fun i hi => hi.1
  obtain ⟨A2, z2, dj2⟩ := A1.swap.op1 k2'
  refine ⟨h1, h2, g1, s1, z1, z1.trans z2, ⟨⟨l.eq.d.setFuse n, l.eq.gen, l.eq.pos, l.eq.down⟩, ⟨fuse_sane l.ok.sane hn, l.ok.min, l.ok.gen, l.ok.pos⟩, by simp only [Dk.setFuse]; omega⟩, fun q0 => ?_, fun q0 => ?_⟩
  · exact ⟨_, _, A2.swap, L1.cap.keep k2' dj2, Rlk.cap ⟨R1.hq, by rw [k2.2 q' (fun h => h.2 rfl)]; exact R1.var, c1 q0⟩⟩
  · obtain ⟨h3, s2, k3, R3⟩ := c2 q0
    have k3' := k3.mono (U := Out S2 h1) fun i hi => hi.1
    obtain ⟨A3, z3, dj3⟩ := A1.swap.op1 k3'
    exact ⟨h3, s2, z1.trans z3, ⟨_, _, A3.swap, L1.cap.keep k3' dj3, Rlk.cap ⟨R1.hq, by rw [k3.2 q' (fun h => h.2 rfl)]; exact R1.var, R3⟩⟩⟩
theorem both_rows {x y : AV} {ls : List (List UInt8)} (hx : Rw x ls) (hy : Rw y ls) (h1 : ∀ c ∈ ls, c.length ≤ 8192) (h2 : ls.length ≤ 1025) (h : Heap) (k : Nat) (hk : 9300 < k) : exFn C0 E0 k false 16 [x, y] h = some (.bool true, h) := by
  have := rows_ok hx hy (by omega) 8193 (fun c hc => by have := h1 c hc; omega) (by decide) false h k (by omega)
  rwa [decide_eq_true rfl] at this
theorem Dsks.ends {b : Nat} {F : Obs} {h : Heap} {p r p' r' : Nat} {d v : Dk} (D : Dsks b F h p r p' r' d v) (l : LikeD d v) (k : Nat) (hk : 20500 < k) :
    ∃ h1 h2, exFn C0 E0 (k + 1) false 36 [] h = some (.bool true, h1) ∧ exFn C0 E0 (k + 1) false 44 [dp p, rp p'] h1 = some (.bool true, h2) := by
  obtain ⟨S1, S2, A, P, R⟩ := D
  have few := l.sane.few
  obtain ⟨h1, a1, k1⟩ := answers4_ok h k (by omega)
  obtain ⟨h2, a2, -⟩ := same4_ok l.eq (by omega) (P.fresh k1) (R.fresh k1) k (by omega)
  exact ⟨h1, h2, a1, a2⟩
end Go.Ax

namespace Go.Ax
open Go Go.Proofs
theorem plays_loop {b p r p' r' : Nat} {vs : List AV} {acts : List Ac} {tk : Tok} (ha : DosL vs acts) (hL : acts.length ≤ 30) (N : Nat) (hN : 20600 < N) :
    ∀ (m i n : Nat) (h : Heap) (q q' : Nat) (w v : Wl), i + m = acts.length → m < n → Duo b (fun _ => False) h q p r q' p' r' w v → Like w v →
    ∃ h', (∀ K : Ex → List AV → Heap → Option (AV × Heap), loopK (fun next => runK C0 (exFn C0 E0 (N + 1)) false 10 (N + 1) B10_1 (seqE next K)) n (st 184 [(1, .vsl 70 vs tk), (6, dp p), (7, rp p'), (8, lp q), (11, rlp q'), (14, .int .i64 i)]) h = K .ret (st 184 [(4, .bool true)]) h') ∨
      ∃ q2 q2' w2 v2, (∀ K : Ex → List AV → Heap → Option (AV × Heap), loopK (fun next => runK C0 (exFn C0 E0 (N + 1)) false 10 (N + 1) B10_1 (seqE next K)) n (st 184 [(1, .vsl 70 vs tk), (6, dp p), (7, rp p'), (8, lp q), (11, rlp q'), (14, .int .i64 i)]) h =
        K (.exit 0) (st 184 [(1, .vsl 70 vs tk), (6, dp p), (7, rp p'), (8, lp q2), (11, rlp q2'), (14, .int .i64 acts.length), (66, .bool false)]) h') ∧ Duo b (fun _ => False) h' q2 p r q2' p' r' w2 v2 ∧ Like w2 v2 := by
  intro m
  have hlen : aLen tab 65 (.vsl 70 vs tk) = some (.int .i64 acts.length) := by rw [len65, ha.length]
  induction m with
  | zero =>
    intro i n h q q' w v hi hn D l
    obtain ⟨n, rfl⟩ : ∃ j, n = j + 1 := ⟨n - 1, by omega⟩
    obtain rfl : i = acts.length := by omega
    refine ⟨h, .inr ⟨q, q', w, v, fun K => ?_, D, l⟩⟩
    rw [loopK_succ]
    generalize loopK (_ : (List AV → Heap → Option (AV × Heap)) → List AV → Heap → Option (AV × Heap)) n = Lp
    have e : decide (((acts.length : Nat) : Int) < (acts.length : Nat)) = false := decide_eq_false (by omega)
    simp -implicitDefEqProofs only [B10_1, ↓RK, RK, ↓RB, RB, decide_true, decide_false, STs, Nat.reduceBEq, ↓reduceIte, Nat.reduceLT, ↓R10, R10, hlen, bin_lss, e]
  | succ m ih =>
    intro i n h q q' w v hi hn D l
    obtain ⟨n, rfl⟩ : ∃ j, n = j + 1 := ⟨n - 1, by omega⟩
    have e : decide (((i : Nat) : Int) < (acts.length : Nat)) = true := decide_eq_true (by omega)
    have wr : IntKind.i64.wrap ((i : Int) + 1) = ((i + 1 : Nat) : Int) := by rw [wrap_i64] <;> omega
    obtain ⟨x, hx, bx, hk, hn63⟩ := ha.get (List.getElem?_eq_getElem (show i < acts.length by omega))
    generalize acts[i]'(by omega) = a at *
    have ix := idx65 (k := tk) hx
    have sn := sn71 h a.what a.n a.at' a.keep x bx.fits
    have hX : (h ++ [Obj.var 71 (.agg 70 [.int .i64 a.what, .int .i64 a.n, .int .i64 a.at', x, .int .u64 a.keep])])[h.length]? = some (.var 71 (.agg 70 [.int .i64 a.what, .int .i64 a.n, .int .i64 a.at', x, .int .u64 a.keep])) := by simp
    have k0 : Keep (From h.length) h (h ++ [Obj.var 71 (.agg 70 [.int .i64 a.what, .int .i64 a.n, .int .i64 a.at', x, .int .u64 a.keep])]) := Keep.app h _ (Up.fresh h)
    have hll : h.length < (h ++ [Obj.var 71 (.agg 70 [.int .i64 a.what, .int .i64 a.n, .int .i64 a.at', x, .int .u64 a.keep])]).length := by simp
    have D1 := D.alloc k0
    generalize h ++ [Obj.var 71 (.agg 70 [.int .i64 a.what, .int .i64 a.n, .int .i64 a.at', x, .int .u64 a.keep])] = H at *
    have hF : ∀ h2 : Heap, ¬ Zone b (fun i => False ∨ (h.length ≤ i ∧ i < H.length)) h2 h.length := fun h2 hz => hz.2 (.inr ⟨Nat.le_refl _, hll⟩)
    -- the next round, from a heap in which both are the same
    have go : ∀ (h2 : Heap) (q2 q2' : Nat) (w2 v2 : Wl), Duo b (fun i => False ∨ (h.length ≤ i ∧ i < H.length)) h2 q2 p r q2' p' r' w2 v2 → Like w2 v2 →
        (∀ K : Ex → List AV → Heap → Option (AV × Heap), loopK (fun next => runK C0 (exFn C0 E0 (N + 1)) false 10 (N + 1) B10_1 (seqE next K)) (n + 1) (st 184 [(1, .vsl 70 vs tk), (6, dp p), (7, rp p'), (8, lp q), (11, rlp q'), (14, .int .i64 i)]) h =
          loopK (fun next => runK C0 (exFn C0 E0 (N + 1)) false 10 (N + 1) B10_1 (seqE next K)) n (st 184 [(1, .vsl 70 vs tk), (6, dp p), (7, rp p'), (8, lp q2), (11, rlp q2'), (14, .int .i64 ((i + 1 : Nat) : Int))]) h2) →
        ∃ h', (∀ K : Ex → List AV → Heap → Option (AV × Heap), loopK (fun next => runK C0 (exFn C0 E0 (N + 1)) false 10 (N + 1) B10_1 (seqE next K)) (n + 1) (st 184 [(1, .vsl 70 vs tk), (6, dp p), (7, rp p'), (8, lp q), (11, rlp q'), (14, .int .i64 i)]) h = K .ret (st 184 [(4, .bool true)]) h') ∨
          ∃ q2 q2' w2 v2, (∀ K : Ex → List AV → Heap → Option (AV × Heap), loopK (fun next => runK C0 (exFn C0 E0 (N + 1)) false 10 (N + 1) B10_1 (seqE next K)) (n + 1) (st 184 [(1, .vsl 70 vs tk), (6, dp p), (7, rp p'), (8, lp q), (11, rlp q'), (14, .int .i64 i)]) h =
            K (.exit 0) (st 184 [(1, .vsl 70 vs tk), (6, dp p), (7, rp p'), (8, lp q2), (11, rlp q2'), (14, .int .i64 acts.length), (66, .bool false)]) h') ∧ Duo b (fun _ => False) h' q2 p r q2' p' r' w2 v2 ∧ Like w2 v2 := by
      intro h2 q2 q2' w2 v2 D2 l2 hs
      obtain ⟨h', c | ⟨q3, q3', w3, v3, c, D3, l3⟩⟩ := ih (i + 1) n h2 q2 q2' w2 v2 (by omega) (by omega) (D2.forget fun _ h => h.elim) l2
      · exact ⟨h', .inl fun K => (hs K).trans (c K)⟩
      · exact ⟨h', .inr ⟨q3, q3', w3, v3, fun K => (hs K).trans (c K), D3, l3⟩⟩
    have z0 : decide ((0 : Int) ≠ 0) = false := by decide
    have nn : ∀ z : Int, decide (z ≠ z) = false := fun z => decide_eq_false fun h => h rfl
    by_cases qb : 9000 < a.b.length
    · have eb : decide ((9000 : Int) < (a.b.length : Nat)) = true := decide_eq_true (by omega)
      refine go H q q' w v D1 l fun K => ?_
      rw [loopK_succ]
      generalize loopK (_ : (List AV → Heap → Option (AV × Heap)) → List AV → Heap → Option (AV × Heap)) n = Lp
      simp -implicitDefEqProofs only [B10_1, ↓RK, RK, ↓RB, RB, decide_true, decide_false, STs, Nat.reduceBEq, ↓reduceIte, Nat.reduceLT, ↓R10, R10, hlen, bin_lss, e, ix, load71v, alloc71, sn, fa71_3, ld71_3 hX, bx.len, bin_gtr, eb, bin_add, wr]
    have eb : decide ((9000 : Int) < (a.b.length : Nat)) = false := decide_eq_false (by omega)
    -- what is told behind an act
    have gens : ∀ (h2 : Heap) (q2 q2' : Nat) (w2 v2 : Wl), Duo b (fun i => False ∨ (h.length ≤ i ∧ i < H.length)) h2 q2 p r q2' p' r' w2 v2 → Like w2 v2 →
        exFn C0 E0 (N + 1) false 37 [lp q2] h2 = some (.int .i64 w2.gen, h2) ∧ aLoad tab 3 (.ref q2' [1] 3) h2 = some (.int .i64 w2.gen) := by
      rintro h2 q2 q2' w2 v2 ⟨S1, S2, A, L, R⟩ l2
      exact ⟨gen_ok L.var N, by rw [l2.eq.gen]; exact rlld1 R.var⟩
    by_cases q0 : a.what = 0
    · have e0 : decide (a.what = 0) = true := decide_eq_true q0
      obtain ⟨h1, h2, g1, g2, D2, l2, z1, z2, -⟩ := D1.append l bx (by omega) N (by omega)
      have hX1 : h1[h.length]? = _ := (z1.2 _ (hF H)).trans hX
      obtain ⟨t1, t2⟩ := gens h2 q q' _ _ D2 l2
      refine go h2 q q' _ _ D2 l2 fun K => ?_
      rw [loopK_succ]
      generalize loopK (_ : (List AV → Heap → Option (AV × Heap)) → List AV → Heap → Option (AV × Heap)) n = Lp
      simp -implicitDefEqProofs only [B10_1, ↓RK, RK, ↓RB, RB, decide_true, decide_false, STs, Nat.reduceBEq, ↓reduceIte, Nat.reduceLT, ↓R10, R10, hlen, bin_lss, e, ix, load71v, alloc71, sn, fa71_0, fa71_3, ld71_0 hX, ld71_3 hX, ld71_3 hX1, bx.len, bin_gtr, eb, bin_eql, e0, g1, g2, rdSame_refl, bin_neq, nn, t1, rlp_chk, rlpf1, t2, bin_add, wr]
    have e0 : decide (a.what = 0) = false := decide_eq_false q0
    by_cases q1 : a.what = 1
    · have e1 : decide (a.what = 1) = true := decide_eq_true q1
      obtain ⟨h1, h2, g1, g2, D2, l2, z1, z2, -⟩ := D1.checkpoint l bx (by omega) N (by omega)
      have hX1 : h1[h.length]? = _ := (z1.2 _ (hF H)).trans hX
      obtain ⟨t1, t2⟩ := gens h2 q q' _ _ D2 l2
      refine go h2 q q' _ _ D2 l2 fun K => ?_
      rw [loopK_succ]
      generalize loopK (_ : (List AV → Heap → Option (AV × Heap)) → List AV → Heap → Option (AV × Heap)) n = Lp
      simp -implicitDefEqProofs only [B10_1, ↓RK, RK, ↓RB, RB, decide_true, decide_false, STs, Nat.reduceBEq, ↓reduceIte, Nat.reduceLT, ↓R10, R10, hlen, bin_lss, e, ix, load71v, alloc71, sn, fa71_0, fa71_3, ld71_0 hX, ld71_3 hX, ld71_3 hX1, bx.len, bin_gtr, eb, bin_eql, e0, e1, g1, g2, rdSame_refl, bin_neq, nn, t1, rlp_chk, rlpf1, t2, bin_add, wr]
    have e1 : decide (a.what = 1) = false := decide_eq_false q1
    by_cases q3 : a.what = 3
    · have e3 : decide (a.what = 3) = true := decide_eq_true q3
      obtain ⟨h1, h2, g1, s2, z1, z2, l2, c1, c2⟩ := D1.fuse l a.n hn63 N
      have hX1 : h1[h.length]? = _ := (z1.2 _ (hF H)).trans hX
      have hX2 : h2[h.length]? = _ := (z2.2 _ (hF H)).trans hX
      by_cases qn : a.n < 0
      · have en : decide (a.n < 0) = true := decide_eq_true qn
        obtain ⟨h3, s3, z3, D3⟩ := c2 qn
        obtain ⟨t1, t2⟩ := gens h3 q q' _ _ D3 l2
        refine go h3 q q' _ _ D3 l2 fun K => ?_
        rw [loopK_succ]
        generalize loopK (_ : (List AV → Heap → Option (AV × Heap)) → List AV → Heap → Option (AV × Heap)) n = Lp
        simp -implicitDefEqProofs only [B10_1, ↓RK, RK, ↓RB, RB, decide_true, decide_false, STs, Nat.reduceBEq, ↓reduceIte, Nat.reduceLT, ↓R10, R10, hlen, bin_lss, e, ix, load71v, alloc71, sn, fa71_0, fa71_1, fa71_3, ld71_0 hX, ld71_1 hX, ld71_1 hX1, ld71_1 hX2, ld71_3 hX, bx.len, bin_gtr, eb, bin_eql, e0, e1, e3, g1, rp_chk, rpf2, s2, en, s3, bin_neq, nn, t1, rlp_chk, rlpf1, t2, rdSame_refl, bin_add, wr]
      · have en : decide (a.n < 0) = false := decide_eq_false qn
        have D3 := c1 qn
        obtain ⟨t1, t2⟩ := gens h2 q q' _ _ D3 l2
        refine go h2 q q' _ _ D3 l2 fun K => ?_
        rw [loopK_succ]
        generalize loopK (_ : (List AV → Heap → Option (AV × Heap)) → List AV → Heap → Option (AV × Heap)) n = Lp
        simp -implicitDefEqProofs only [B10_1, ↓RK, RK, ↓RB, RB, decide_true, decide_false, STs, Nat.reduceBEq, ↓reduceIte, Nat.reduceLT, ↓R10, R10, hlen, bin_lss, e, ix, load71v, alloc71, sn, fa71_0, fa71_1, fa71_3, ld71_0 hX, ld71_1 hX, ld71_1 hX1, ld71_1 hX2, ld71_3 hX, bx.len, bin_gtr, eb, bin_eql, e0, e1, e3, g1, rp_chk, rpf2, s2, en, bin_neq, nn, t1, rlp_chk, rlpf1, t2, rdSame_refl, bin_add, wr]
    have e3 : decide (a.what = 3) = false := decide_eq_false q3
    by_cases q2 : a.what = 2
    · have e2 : decide (a.what = 2) = true := decide_eq_true q2
      obtain ⟨h1, h2, g1, g2, D2, l2, z1, z2, -⟩ := D1.dsks.crash l.d a.keep hk a.n a.at' N (by omega)
      have hX1 : h1[h.length]? = _ := (z1.2 _ (hF H)).trans hX
      obtain ⟨h3, h4, x1, x2, x3, x4, o1, o2, rx2, rx4, z3, z4, D4, l4, -, y1, y2⟩ := D2.open l2 N (by omega)
      obtain ⟨u1, u2⟩ := wopen_rows l2.sane.len (by rw [(format_st l2.sane (by have := l2.min; omega)).2.1]; exact l2.sane.len)
      have rr := both_rows rx2 rx4 u1 u2 h4 (N + 1) (by omega)
      by_cases z : (w.d.crash a.keep a.n a.at').wopen.1 = 0
      · obtain ⟨q3, q3', rfl, rfl, D5, l5⟩ := y1 z
        obtain ⟨t1, t2⟩ := gens h4 q3 q3' _ _ D5 l5
        rw [z] at o1 o2
        refine go h4 q3 q3' _ _ D5 l5 fun K => ?_
        rw [loopK_succ]
        generalize loopK (_ : (List AV → Heap → Option (AV × Heap)) → List AV → Heap → Option (AV × Heap)) n = Lp
        simp -implicitDefEqProofs only [B10_1, ↓RK, RK, ↓RB, RB, decide_true, decide_false, STs, Nat.reduceBEq, ↓reduceIte, Nat.reduceLT, ↓R10, R10, hlen, bin_lss, e, ix, load71v, alloc71, sn, fa71_0, fa71_1, fa71_2, fa71_3, fa71_4, ld71_0 hX, ld71_1 hX, ld71_2 hX, ld71_4 hX, ld71_1 hX1, ld71_2 hX1, ld71_4 hX1, ld71_3 hX, bx.len, bin_gtr, eb, bin_eql, e0, e1, e2, e3, g1, g2, o1, o2, ext30, ext31, ext32, bin_neq, nn, rr, un_not, Bool.not_true, t1, rlp_chk, rlpf1, t2, rdSame_refl, bin_add, wr]
      · obtain rfl := y2 z
        obtain ⟨h5, h6, p1, p2⟩ := D4.ends l4 N (by omega)
        have ze : decide ((w.d.crash a.keep a.n a.at').wopen.1 ≠ 0) = true := decide_eq_true z
        refine ⟨h6, .inl fun K => ?_⟩
        rw [loopK_succ]
        generalize loopK (_ : (List AV → Heap → Option (AV × Heap)) → List AV → Heap → Option (AV × Heap)) n = Lp
        simp -implicitDefEqProofs only [B10_1, ↓RK, RK, ↓RB, RB, decide_true, decide_false, STs, Nat.reduceBEq, ↓reduceIte, Nat.reduceLT, ↓R10, R10, hlen, bin_lss, e, ix, load71v, alloc71, sn, fa71_0, fa71_1, fa71_2, fa71_3, fa71_4, ld71_0 hX, ld71_1 hX, ld71_2 hX, ld71_4 hX, ld71_1 hX1, ld71_2 hX1, ld71_4 hX1, ld71_3 hX, bx.len, bin_gtr, eb, bin_eql, e0, e1, e2, e3, g1, g2, o1, o2, ext30, ext31, ext32, bin_neq, nn, ze, rr, un_not, Bool.not_true, p1, p2]
    · have e2 : decide (a.what = 2) = false := decide_eq_false q2
      obtain ⟨h3, h4, x1, x2, x3, x4, o1, o2, rx2, rx4, z3, z4, D4, l4, -, y1, y2⟩ := D1.dsks.open l.d N (by omega)
      obtain ⟨u1, u2⟩ := wopen_rows l.d.sane.len (by rw [(format_st l.d.sane (by have := l.d.min; omega)).2.1]; exact l.d.sane.len)
      have rr := both_rows rx2 rx4 u1 u2 h4 (N + 1) (by omega)
      by_cases z : w.d.wopen.1 = 0
      · obtain ⟨q3, q3', rfl, rfl, D5, l5⟩ := y1 z
        obtain ⟨t1, t2⟩ := gens h4 q3 q3' _ _ D5 l5
        rw [z] at o1 o2
        refine go h4 q3 q3' _ _ D5 l5 fun K => ?_
        rw [loopK_succ]
        generalize loopK (_ : (List AV → Heap → Option (AV × Heap)) → List AV → Heap → Option (AV × Heap)) n = Lp
        simp -implicitDefEqProofs only [B10_1, ↓RK, RK, ↓RB, RB, decide_true, decide_false, STs, Nat.reduceBEq, ↓reduceIte, Nat.reduceLT, ↓R10, R10, hlen, bin_lss, e, ix, load71v, alloc71, sn, fa71_0, fa71_3, ld71_0 hX, ld71_3 hX, bx.len, bin_gtr, eb, bin_eql, e0, e1, e2, e3, o1, o2, ext30, ext31, ext32, bin_neq, nn, rr, un_not, Bool.not_true, t1, rlp_chk, rlpf1, t2, rdSame_refl, bin_add, wr]
      · obtain rfl := y2 z
        obtain ⟨h5, h6, p1, p2⟩ := D4.ends l4 N (by omega)
        have ze : decide (w.d.wopen.1 ≠ 0) = true := decide_eq_true z
        refine ⟨h6, .inl fun K => ?_⟩
        rw [loopK_succ]
        generalize loopK (_ : (List AV → Heap → Option (AV × Heap)) → List AV → Heap → Option (AV × Heap)) n = Lp
        simp -implicitDefEqProofs only [B10_1, ↓RK, RK, ↓RB, RB, decide_true, decide_false, STs, Nat.reduceBEq, ↓reduceIte, Nat.reduceLT, ↓R10, R10, hlen, bin_lss, e, ix, load71v, alloc71, sn, fa71_0, fa71_3, ld71_0 hX, ld71_3 hX, bx.len, bin_gtr, eb, bin_eql, e0, e1, e2, e3, o1, o2, ext30, ext31, ext32, bin_neq, nn, ze, rr, un_not, Bool.not_true, p1, p2]
def Ds (x : AV) (acts : List Ac) : Prop := (x = .nils ∧ acts = []) ∨ ∃ vs tk, x = .vsl 70 vs tk ∧ DosL vs acts
theorem Ds.len {x : AV} {acts : List Ac} (h : Ds x acts) : aLen tab 65 x = some (.int .i64 acts.length) := by
  rcases h with ⟨rfl, rfl⟩ | ⟨vs, tk, rfl, ha⟩
  · simp [aLen]
  · rw [len65, ha.length]
theorem rem120_u8 (a : Nat) : aBinC tab .rem 5 (.int .u8 a) (.int .u8 120) true = some (.int .u8 ((a % 120 : Nat) : Int)) := by
  simp [aBinC, aBin, Go.binOp, Op.intDiv, ofPure, pure, wrap_u8]
  rw [Int.tmod_eq_emod_of_nonneg (by omega)]
  try omega
set_option maxRecDepth 4000 in
theorem plays_law (h : Heap) (n : Nat) {x : AV} {acts : List Ac} (ha : Ds x acts) (k : Nat) (hk : 20700 < k) : ∃ h', exFn C0 E0 (k + 1) false 10 [.int .u8 n, x] h = some (.bool true, h') := by
  obtain ⟨k, rfl⟩ : ∃ j, k = j + 1 := ⟨k - 1, by omega⟩
  have n0 : ([.int .u8 n, x] ++ List.replicate (184 - [.int .u8 n, x].length) AV.undef) = st 184 [(0, .int .u8 n), (1, x)] := rfl
  by_cases q0 : 30 < acts.length
  · obtain ⟨h1, a1, -⟩ := answers4_ok h k (by omega)
    have e0 : decide ((30 : Int) < (acts.length : Nat)) = true := decide_eq_true (by omega)
    refine ⟨h1, exFn_of e10 ?_⟩
    rw [fnK, n0, s10]
    simp -implicitDefEqProofs only [↓RK, RK, ↓RB, RB, decide_true, decide_false, STs, Nat.reduceBEq, ↓reduceIte, Nat.reduceLT, ↓R10, R10, ha.len, bin_gtr, e0, a1]
  have e0 : decide ((30 : Int) < (acts.length : Nat)) = false := decide_eq_false (by omega)
  have cv := conv8_64' (n % 120) (by omega)
  have r120 := rem120_u8 n
  have hK : n % 120 < 120 := Nat.mod_lt _ (by decide)
  generalize n % 120 = K at *
  obtain ⟨p, r, h1, n1, D1, k1⟩ := new_ok (K : Int) h false k
  obtain ⟨p', r', h2, n2, R2, k2⟩ := rnew_ok (K : Int) h1 k (by omega)
  have hl : (Dk.new (K : Int)).lasts.length = K := by simp [Dk.new, newN]; omega
  have nn : ∀ z : Int, decide (z ≠ z) = false := fun z => decide_eq_false fun h => h rfl
  by_cases q4 : K < 4
  · have o1 := open_small (D1.fresh k2) (by omega) (k - 1)
    rw [show k - 1 + 2 = k + 1 by omega] at o1
    have o2 := ropen_small R2 (by omega) k
    have rr := rows_ok rw_nil rw_nil (by simp) 1 (by simp) (by omega) false h2 (k + 1) (by simp only [List.length_nil]; omega)
    rw [decide_eq_true rfl] at rr
    obtain ⟨h3, a3, -⟩ := answers4_ok h2 k (by omega)
    have c1 : decide ((1 : Int) ≠ 0) = true := by decide
    refine ⟨h3, exFn_of e10 ?_⟩
    rw [fnK, n0, s10]
    simp -implicitDefEqProofs only [↓RK, RK, ↓RB, RB, decide_true, decide_false, STs, Nat.reduceBEq, ↓reduceIte, Nat.reduceLT, ↓R10, R10, ha.len, bin_gtr, e0, r120, cv, n1, n2, o1, o2, ext30, ext31, ext32, bin_neq, nn, rr, un_not, Bool.not_true, c1, a3, nil_lp]
  have A : Apart h.length (fun _ => False) h2 (Cut (From h.length) h1) (Cut (From h1.length) h2) := by
    have t1 := k1.1
    have t2 := k2.1
    refine ⟨by omega, fun i hi => hi.elim, fun i h1 h2 => ?_, fun i hi => ?_, fun i hi => ?_⟩
    · have := h1.2; have := h2.1; unfold From at this; omega
    · have := hi.1; unfold From at this; have := hi.2; exact ⟨by omega, by omega, fun h => h⟩
    · have := hi.1; unfold From at this; have := hi.2; exact ⟨by omega, by omega, fun h => h⟩
  have D : Dsks h.length (fun _ => False) h2 p r p' r' (Dk.new (K : Int)) (Dk.new (K : Int)) := ⟨_, _, A, (D1.cap).fresh k2, R2.cap⟩
  have l : LikeD (Dk.new (K : Int)) (Dk.new (K : Int)) := ⟨DkEq.refl _, new_sane _, by omega, by simp [Dk.new]⟩
  obtain ⟨h3, h4, x1, x2, x3, x4, o1, o2, rx2, rx4, -, -, -, -, -, y1, -⟩ := D.open l k (by omega)
  obtain ⟨u1, u2⟩ := wopen_rows l.sane.len (by rw [(format_st l.sane (by omega)).2.1]; exact l.sane.len)
  have rr := both_rows rx2 rx4 u1 u2 h4 (k + 1) (by omega)
  have dn : Dk.new (K : Int) = Calm (List.replicate K zs) := by rw [new_calm, show newN (K : Int) = K by unfold newN; omega]
  have ob := (open_blank K (by omega) (by omega)).1
  rw [← dn] at ob
  have z : (Dk.new (K : Int)).wopen.1 = 0 := by rw [ob]
  obtain ⟨q, q', rfl, rfl, DU, LK⟩ := y1 z
  rw [z] at o1 o2
  rcases ha with ⟨rfl, rfl⟩ | ⟨vs, tk, rfl, ha⟩
  · obtain ⟨h5, h6, p1, p2⟩ := DU.dsks.ends LK.d k (by omega)
    have e1 : decide ((0 : Int) < 0) = false := by decide
    have l0 : aLen tab 65 .nils = some (.int .i64 0) := by simp [aLen]
    have e00 : decide ((30 : Int) < 0) = false := by decide
    refine ⟨h6, exFn_of e10 ?_⟩
    rw [fnK, n0, s10]
    simp -implicitDefEqProofs only [↓RK, RK, ↓RB, RB, decide_true, decide_false, STs, Nat.reduceBEq, ↓reduceIte, Nat.reduceLT, ↓R10, R10, l0, bin_gtr, e00, r120, cv, n1, n2, o1, o2, ext30, ext31, ext32, bin_neq, nn, rr, un_not, Bool.not_true]
    rw [loopK_succ]
    generalize loopK (_ : (List AV → Heap → Option (AV × Heap)) → List AV → Heap → Option (AV × Heap)) _ = Lp
    simp -implicitDefEqProofs only [B10_1, ↓RK, RK, ↓RB, RB, decide_true, decide_false, STs, Nat.reduceBEq, ↓reduceIte, Nat.reduceLT, ↓R10, R10, l0, bin_lss, e1, p1, p2]
  have hlen : aLen tab 65 (.vsl 70 vs tk) = some (.int .i64 acts.length) := by rw [len65, ha.length]
  obtain ⟨h5, c | ⟨q2, q2', w2, v2, c, D5, l5⟩⟩ := plays_loop (tk := tk) ha (by omega) k (by omega) acts.length 0 (k + 1) h4 q q' _ _ (by omega) (by omega) DU LK
  · rw [show ((0 : Nat) : Int) = 0 from rfl] at c
    refine ⟨h5, exFn_of e10 ?_⟩
    rw [fnK, n0, s10]
    simp -implicitDefEqProofs only [↓RK, RK, ↓RB, RB, decide_true, decide_false, STs, Nat.reduceBEq, ↓reduceIte, Nat.reduceLT, ↓R10, R10, hlen, bin_gtr, e0, r120, cv, n1, n2, o1, o2, ext30, ext31, ext32, bin_neq, nn, rr, un_not, Bool.not_true]
    rw [c]
    simp -implicitDefEqProofs only [↓RK, RK, ↓RB, RB, decide_true, decide_false, STs, Nat.reduceBEq, ↓reduceIte, Nat.reduceLT]
  · rw [show ((0 : Nat) : Int) = 0 from rfl] at c
    obtain ⟨h6, h7, p1, p2⟩ := D5.dsks.ends l5.d k (by omega)
    refine ⟨h7, exFn_of e10 ?_⟩
    rw [fnK, n0, s10]
    simp -implicitDefEqProofs only [↓RK, RK, ↓RB, RB, decide_true, decide_false, STs, Nat.reduceBEq, ↓reduceIte, Nat.reduceLT, ↓R10, R10, hlen, bin_gtr, e0, r120, cv, n1, n2, o1, o2, ext30, ext31, ext32, bin_neq, nn, rr, un_not, Bool.not_true]
    rw [c]
    simp -implicitDefEqProofs only [↓RK, RK, ↓RB, RB, decide_true, decide_false, STs, Nat.reduceBEq, ↓reduceIte, Nat.reduceLT, ↓R10, R10, p1, p2]
end Go.Ax

namespace Go.Ax
open Go Go.Proofs Go.RowKit
theorem dos_of : ∀ (l : List AV), (∀ y ∈ l, Wf tab 71 y) → ∃ acts, DosL l acts
  | [], _ => ⟨[], .nil⟩
  | y :: l, h => by
    obtain ⟨acts, h1⟩ := dos_of l fun z hz => h z (List.mem_cons_of_mem _ hz)
    obtain ⟨fs, rfl, hl, hf⟩ := (h y List.mem_cons_self).struct_inv (ts := [3, 3, 3, 22, 44]) rfl
    match fs, hl with
    | [a, b, c, d, e], _ =>
      obtain ⟨w, -, rfl⟩ := (hf 0 3 a rfl rfl).i64
      obtain ⟨n, hn, rfl⟩ := (hf 1 3 b rfl rfl).i64
      obtain ⟨p, -, rfl⟩ := (hf 2 3 c rfl rfl).i64
      obtain ⟨bs, hb, -⟩ := (hf 3 22 d rfl rfl).bytes
      obtain ⟨kp, hk, rfl⟩ := (hf 4 44 e rfl rfl).u64
      exact ⟨⟨w, p, n, bs, kp⟩ :: acts, DosL.cons (a := ⟨w, p, n, bs, kp⟩) hb hk (by show n < 2 ^ 63; omega) h1⟩
theorem Wf.dos {x : AV} (h : Wf tab 65 x) : ∃ acts, Ds x acts := by
  rcases h.slice_inv rfl with rfl | ⟨l, rfl, hl, hy⟩
  · exact ⟨[], .inl ⟨rfl, rfl⟩⟩
  · obtain ⟨acts, h1⟩ := dos_of l hy
    exact ⟨acts, .inr ⟨_, _, rfl, h1⟩⟩
end Go.Ax
