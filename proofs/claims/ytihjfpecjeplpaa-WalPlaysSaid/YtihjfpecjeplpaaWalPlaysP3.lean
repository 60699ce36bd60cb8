/- An interpreter of Go code over a small abstract heap, proved sound against the model, and what the functions that WalPlays reaches compute (part 3); each theorem for the inputs that it names. -/
import Derived.Test.YtihjfpecjeplpaaWalPlaysP2
set_option linter.unusedSimpArgs false
set_option linter.unusedVariables false
set_option linter.defProp false

namespace Go.Ax
open Go Go.Proofs
theorem eql_nils (x : AV) (l : List UInt8) (U : Obs) (h : Heap) (b : By U h x l) : ∃ c, aBinC tab .eql 22 x .nils true = some (.bool c) ∧ (c = true → x = .nils ∧ l = []) := by
  rcases b with (⟨rfl, rfl⟩ | ⟨k, rfl⟩) | ⟨r, p, off, L, rfl, -⟩
  · exact ⟨true, by simp [aBinC, aBin, aEq], fun _ => ⟨rfl, rfl⟩⟩
  · exact ⟨false, by simp [aBinC, aBin, aEq], fun h => by cases h⟩
  · exact ⟨false, by simp [aBinC, aBin, aEq], fun h => by cases h⟩
theorem app22s {x y : AV} {l : List AV} {h : Heap} (e : srcElems tab 5 h y = some l) : aApp tab 22 22 false x y h = aAppend tab 5 false x l h := by
  simp [aApp, e]
theorem clone_ok {U : Obs} {x : AV} {l : List UInt8} {h : Heap} (b : By U h x l) (hl : l.length < 2 ^ 39) (k : Nat) :
    ∃ x' h', exFn C0 E0 (k + 1) false 52 [x] h = some (x', h') ∧ ApB (From h.length) h' x' l ∧ Keep (From h.length) h h' := by
  obtain ⟨c, hc, hn⟩ := eql_nils x l U h b
  have n0 : ([x] ++ List.replicate (8 - [x].length) AV.undef) = st 8 [(0, x)] := rfl
  cases c
  · have a0 : ApB (From h.length) h (.vsl 5 [] .exact) [] := .inr ⟨_, rfl, .inl rfl⟩
    cases l with
    | nil =>
      refine ⟨_, h, exFn_of e52 ?_, a0, Keep.refl _ _⟩
      rw [fnK, n0, s52]
      have e : aAppend tab 5 false (.vsl 5 [] .exact) ([] : List AV) h = some (.vsl 5 [] .exact, h) := rfl
      simp -implicitDefEqProofs only [↓RK, RK, ↓RB, RB, decide_true, decide_false, STs, Nat.reduceBEq, ↓reduceIte, Nat.reduceLT, ↓R52, R52, hc, lit22_0, app22s b.src, List.map_nil, e]
    | cons y l =>
      obtain ⟨x', h', h1, h2, h3, -⟩ := a0.append (Up.fresh h) (new := y :: l) (by simp) (by simp only [List.length_nil]; omega)
      refine ⟨x', h', exFn_of e52 ?_, h2, h3⟩
      rw [fnK, n0, s52]
      simp -implicitDefEqProofs only [↓RK, RK, ↓RB, RB, decide_true, decide_false, STs, Nat.reduceBEq, ↓reduceIte, Nat.reduceLT, ↓R52, R52, hc, lit22_0, app22s b.src, h1]
  · obtain ⟨rfl, rfl⟩ := hn rfl
    refine ⟨.nils, h, exFn_of e52 ?_, .inl ⟨rfl, rfl⟩, Keep.refl _ _⟩
    rw [fnK, n0, s52]
    simp -implicitDefEqProofs only [↓RK, RK, ↓RB, RB, decide_true, decide_false, STs, Nat.reduceBEq, ↓reduceIte, Nat.reduceLT, ↓R52, R52, hc]
theorem idx81 (r n i : Nat) (hi : i < n) : aIndexAddr tab 81 (lastsAV r n) (.int .i64 i) = some (.ref r [i] 88) := by
  unfold lastsAV
  rw [if_neg (by omega)]
  simp [aIndexAddr, hi]
def Dk.lastsAt (d : Dk) (i : Int) : List UInt8 × Int := if d.has i then ((d.lasts[i.toNat]?).getD [], 0) else ([], 1)
theorem row_cell {S : Obs} {p r : Nat} {h : Heap} {d : Dk} (D : Dsk S h p r d) {n : Nat} (hn : n < d.lasts.length) : By S h (.msl r [n] 5 0 64) (d.lasts[n]) := by
  have hne : d.lasts ≠ [] := by intro e; rw [e] at hn; simp at hn
  have hl : (d.lasts[n]).length = 64 := D.cells _ (List.getElem_mem hn)
  refine .inr ⟨r, [n], 0, (d.lasts[n]).map U8, by rw [hl], D.hr hne, ?_, by simp, by simp [hl, List.take_of_length_le]⟩
  rw [D.row hne]
  simp [rowGet, objGet, getP, cellAV, hn]
theorem lasts_ok {S : Obs} {p r : Nat} {h : Heap} {d : Dk} (D : Dsk S h p r d) (i : Int) (k : Nat) :
    ∃ x' h', exFn C0 E0 (k + 3) false 20 [dp p, .int .i64 i] h = some (.tuple [x', .int .i64 (d.lastsAt i).2], h') ∧ ApB (From h.length) h' x' (d.lastsAt i).1 ∧ Keep (From h.length) h h' := by
  have n0 : ([dp p, .int .i64 i] ++ List.replicate (18 - [dp p, .int .i64 i].length) AV.undef) = st 18 [(0, dp p), (1, .int .i64 i)] := rfl
  unfold Dk.lastsAt
  by_cases h1 : d.has i
  · have e0 : decide (d.has i) = true := decide_eq_true h1
    rw [if_pos h1]
    obtain ⟨n, rfl⟩ : ∃ n : Nat, i = n := ⟨i.toNat, by have := h1.1; omega⟩
    have hn : n < d.lasts.length := by have := h1.2; omega
    have hl : (d.lasts[n]).length = 64 := D.cells _ (List.getElem_mem hn)
    obtain ⟨x', h', h2, h3, h4⟩ := clone_ok (row_cell D hn) (by omega) (k + 1)
    obtain ⟨x, hx, ha⟩ := D.var
    refine ⟨x', h', exFn_of e20 ?_, by simpa [hn] using h3, h4⟩
    rw [fnK, n0, s20]
    simp -implicitDefEqProofs only [↓RK, RK, ↓RB, RB, decide_true, decide_false, STs, Nat.reduceBEq, ↓reduceIte, Nat.reduceLT, ↓R20, R20, there_ok D, e0, un_not, Bool.not_true, dp_chk, dpf0, dld0 hx, idx81 r _ n hn, sl89, h2]
  · have e0 : decide (d.has i) = false := decide_eq_false h1
    rw [if_neg h1]
    refine ⟨.nils, h, exFn_of e20 ?_, .inl ⟨rfl, rfl⟩, Keep.refl _ _⟩
    rw [fnK, n0, s20]
    simp -implicitDefEqProofs only [↓RK, RK, ↓RB, RB, decide_true, decide_false, STs, Nat.reduceBEq, ↓reduceIte, Nat.reduceLT, ↓R20, R20, there_ok D, e0, un_not, Bool.not_false]
theorem len82 {S : Obs} {h : Heap} {x : AV} {l : List AV} (a : Ap 90 S h x l) : aLen tab 82 x = some (.int .i64 l.length) := by
  rcases a with ⟨rfl, rfl⟩ | ⟨k, rfl, -⟩ <;> simp [aLen]
theorem idx82 {S : Obs} {h : Heap} {x : AV} {l : List (Nat × List UInt8)} (a : Ap 90 S h x (l.map writeAV)) {i : Nat} {w : Nat × List UInt8} (hi : l[i]? = some w) : aIndexAddr tab 82 x (.int .i64 i) = some (.vptr 90 (writeAV w)) := by
  rcases a with ⟨rfl, e⟩ | ⟨k, rfl, -⟩
  · simp at e; subst e; simp at hi
  · simp [aIndexAddr, hi]
theorem load91v (h : Heap) (v : AV) : aLoad tab 91 (.vptr 90 v) h = some v := by simp [aLoad]
theorem lit93 (n : Int) : aLit tab 93 1 [(0, .int .i64 n)] = some (.vsl 3 [.int .i64 n] .exact) := by kernel_rfl
theorem app93 (x : AV) (new : List AV) (k : Tok) (h : Heap) : aApp tab 93 93 false x (.vsl 3 new k) h = aAppend tab 3 false x new h := by kernel_rfl
theorem len93 {S : Obs} {h : Heap} {x : AV} {l : List AV} (a : Ap 3 S h x l) : aLen tab 93 x = some (.int .i64 l.length) := by
  rcases a with ⟨rfl, rfl⟩ | ⟨k, rfl, -⟩ <;> simp [aLen]
theorem wld0 {h : Heap} {q : Nat} {w : Nat × List UInt8} (hq : h[q]? = some (.var 91 (writeAV w))) : aLoad tab 3 (.ref q [0] 3) h = some (.int .i64 w.1) := load_fld (i := 0) hq rfl (by simp)
theorem wld1 {h : Heap} {q : Nat} {w : Nat × List UInt8} (hq : h[q]? = some (.var 91 (writeAV w))) : aLoad tab 89 (.ref q [1] 88) h = some (cellAV w.2) := load_fld (i := 1) hq rfl (by simp)
theorem sn91 (h : Heap) (w : Nat × List UInt8) : aStore tab 91 (.ref h.length [] 90) (writeAV w) (h ++ [.var 91 (.agg 90 [.int .i64 0, cellAV (List.replicate 64 0)])]) = some (h ++ [.var 91 (writeAV w)]) :=
  store_new (by simp) (fits91 _)
abbrev atsAV (l : List (Nat × List UInt8)) : List AV := l.map fun w => .int .i64 w.1
theorem pend_loop {S : Obs} {h0 : Heap} {y : AV} {L : List (Nat × List UInt8)} (hy : Ap 90 S h0 y (L.map writeAV)) (hL : L.length < 2 ^ 30) (call : CallF) (N : Nat) {U : Obs} :
    ∀ (m i n : Nat) (acc : AV) (h : Heap), i + m = L.length → m < n → Ap 3 U h acc (atsAV (L.take i)) → Up U h →
    ∃ acc' h', (∀ K : Ex → List AV → Heap → Option (AV × Heap), loopK (fun next => runK C0 call false 53 N B53_1 (seqE next K)) n (st 24 [(3, acc), (11, y), (12, .int .i64 L.length), (13, .int .i64 i)]) h =
      K (.exit 0) (st 24 [(3, acc'), (11, y), (12, .int .i64 L.length), (13, .int .i64 L.length), (14, .bool false)]) h') ∧ Ap 3 U h' acc' (atsAV L) ∧ Keep U h h' := by
  intro m
  induction m with
  | zero =>
    intro i n acc h hi hn ha _
    obtain ⟨n, rfl⟩ : ∃ j, n = j + 1 := ⟨n - 1, by omega⟩
    obtain rfl : i = L.length := by omega
    refine ⟨acc, h, fun K => ?_, by simpa using ha, Keep.refl _ _⟩
    rw [loopK_succ]
    generalize loopK (fun next => runK C0 call false 53 N B53_1 (seqE next K)) n = Lp
    have e : decide (((L.length : Nat) : Int) < (L.length : Nat)) = false := decide_eq_false (by omega)
    simp -implicitDefEqProofs only [B53_1, ↓RK, RK, ↓RB, RB, decide_true, decide_false, STs, Nat.reduceBEq, ↓reduceIte, Nat.reduceLT, ↓R53, R53, bin_lss, e]
  | succ m ih =>
    intro i n acc h hi hn ha up
    obtain ⟨n, rfl⟩ : ∃ j, n = j + 1 := ⟨n - 1, by omega⟩
    have hlt : i < L.length := by omega
    have hw : L[i]? = some L[i] := List.getElem?_eq_getElem hlt
    have e : decide (((i : Nat) : Int) < (L.length : Nat)) = true := decide_eq_true (by omega)
    have wr : IntKind.i64.wrap ((i : Int) + 1) = ((i + 1 : Nat) : Int) := by rw [wrap_i64] <;> omega
    have k1 : Keep (From h.length) h (h ++ [.var 91 (writeAV L[i])]) := Keep.app h _ (Up.fresh h)
    have hq : (h ++ [.var 91 (writeAV L[i])])[h.length]? = some (.var 91 (writeAV L[i])) := by simp
    have hsn := sn91 h L[i]
    have ha1 := ha.fresh k1
    have up1 := up.keep k1
    have kk := k1.up up
    generalize h ++ [Obj.var 91 (writeAV L[i])] = H at *
    obtain ⟨acc', h2, kk', ap, -, ha2, k2, -⟩ := Ap.append (T := tab) (e := 3) (S := U) (h := H) (x := acc) (l := atsAV (L.take i)) (new := [.int .i64 (L[i].1 : Nat)]) (by rw [tu3]; exact ha1) up1 (by simp) (by simp)
      (by simp only [tb3, List.length_map, List.length_singleton, List.length_take]; omega) (by simp only [List.length_map, List.length_singleton, List.length_take]; omega) (by simp)
    rw [tu3] at ha2
    have ha3 : Ap 3 U h2 acc' (atsAV (L.take (i + 1))) := by
      have e3 : atsAV (L.take (i + 1)) = atsAV (L.take i) ++ [.int .i64 (L[i].1 : Nat)] := by
        unfold atsAV; rw [List.take_add_one, hw, List.map_append]; rfl
      rw [e3]; exact ha2
    obtain ⟨acc'', h3, h4, h5, h6⟩ := ih (i + 1) n acc' h2 (by omega) (by omega) ha3 (up1.keep k2)
    refine ⟨acc'', h3, fun K => ?_, h5, (kk.trans k2).trans h6⟩
    rw [loopK_succ, ← h4 K]
    generalize loopK (fun next => runK C0 call false 53 N B53_1 (seqE next K)) n = Lp
    simp -implicitDefEqProofs only [B53_1, ↓RK, RK, ↓RB, RB, decide_true, decide_false, STs, Nat.reduceBEq, ↓reduceIte, Nat.reduceLT, ↓R53, R53, bin_lss, e, idx82 hy hw, load91v, alloc91, hsn, fa91_0, wld0 hq, lit93, app93, ap, bin_add, wr]
theorem pending_ok {S : Obs} {p r : Nat} {h : Heap} {d : Dk} (D : Dsk S h p r d) (hl : d.loose.length < 2 ^ 30) (k : Nat) (hk : d.loose.length < k) :
    ∃ x' h', exFn C0 E0 (k + 1) false 53 [dp p] h = some (x', h') ∧ Ap 3 (From h.length) h' x' (atsAV d.loose) ∧ Keep (From h.length) h h' := by
  obtain ⟨x, hx, ha⟩ := D.var
  have n0 : ([dp p] ++ List.replicate (24 - [dp p].length) AV.undef) = st 24 [(0, dp p)] := rfl
  have hlen := len82 ha
  rw [List.length_map] at hlen
  obtain ⟨x', h', h1, h2, h3⟩ := pend_loop ha hl (exFn C0 E0 k) k d.loose.length 0 k .nils h (by omega) hk (.inl ⟨rfl, rfl⟩) (Up.fresh h)
  rw [show ((0 : Nat) : Int) = 0 from rfl] at h1
  refine ⟨x', h', exFn_of e53 ?_, h2, h3⟩
  rw [fnK, n0, s53]
  simp -implicitDefEqProofs only [↓RK, RK, ↓RB, RB, decide_true, decide_false, STs, Nat.reduceBEq, ↓reduceIte, Nat.reduceLT, ↓R53, R53, dp_nil, dp_chk, dpf1, dld1 hx, hlen]
  rw [h1]
  simp -implicitDefEqProofs only [↓RK, RK, ↓RB, RB, decide_true, decide_false, STs, Nat.reduceBEq, ↓reduceIte, Nat.reduceLT, ↓R53, R53]
def land (l : List (List UInt8)) (ws : List (Nat × List UInt8)) : List (List UInt8) := ws.foldl (fun l w => l.set w.1 w.2) l
theorem land_length : ∀ (ws : List (Nat × List UInt8)) (l : List (List UInt8)), (land l ws).length = l.length
  | [], _ => rfl
  | w :: ws, l => by rw [land, List.foldl_cons]; exact (land_length ws _).trans (by simp)
theorem land_snoc (l : List (List UInt8)) (ws : List (Nat × List UInt8)) (w : Nat × List UInt8) : land l (ws ++ [w]) = (land l ws).set w.1 w.2 := by
  simp [land]
theorem land_cells : ∀ (ws : List (Nat × List UInt8)) (l : List (List UInt8)), (∀ b ∈ l, b.length = 64) → (∀ w ∈ ws, w.2.length = 64) → ∀ b ∈ land l ws, b.length = 64
  | [], _, h, _ => h
  | w :: ws, l, h, hw => by
    rw [land, List.foldl_cons]
    refine land_cells ws _ (fun b hb => ?_) fun v hv => hw v (List.mem_cons_of_mem _ hv)
    rcases List.mem_or_eq_of_mem_set hb with hb | rfl
    · exact h b hb
    · exact hw w List.mem_cons_self
def Dk.now (d : Dk) : List (List UInt8) := land d.lasts d.loose
def Dk.read (d : Dk) (i : Int) : List UInt8 × Int := if d.has i then ((d.now[i.toNat]?).getD [], 0) else ([], 1)
theorem fa91v_0 (w : Nat × List UInt8) : aFieldAddr tab 91 (.vptr 90 (writeAV w)) 0 = some (.vptr 3 (.int .i64 w.1)) := by simp [aFieldAddr, writeAV]
theorem fa91v_1 (w : Nat × List UInt8) : aFieldAddr tab 91 (.vptr 90 (writeAV w)) 1 = some (.vptr 88 (cellAV w.2)) := by simp [aFieldAddr, writeAV]
theorem load3v (h : Heap) (v : AV) : aLoad tab 3 (.vptr 3 v) h = some v := by simp [aLoad]
theorem read_loop {S U : Obs} {p r : Nat} {h : Heap} {d : Dk} (D : Dsk S h p r d) (up : Up U h) (hl : d.loose.length < 2 ^ 30) (i : Nat) (b : AV) (hb : ApB U h b ((d.lasts[i]?).getD [])) (N : Nat) (hi : i < d.lasts.length) :
    ∀ (m n : Nat), m ≤ d.loose.length → m < n →
    ∃ x' h', loopK (fun next => runK C0 (exFn C0 E0 (N + 1)) false 38 (N + 1) B38_1 (seqE next (blkE 0 (seqE (runK C0 (exFn C0 E0 (N + 1)) false 38 (N + 1) (.seq (.region 7 (O38 7) false) .ret) (retK [4, 5])) (retK [4, 5])))))
      n (st 48 [(0, dp p), (1, .int .i64 i), (6, b), (7, .int .i64 0), (8, .int .i64 ((m : Int) - 1))]) h = some (.tuple [x', .int .i64 0], h') ∧
      ApB U h' x' (((land d.lasts (d.loose.take m))[i]?).getD []) ∧ Keep U h h' := by
  obtain ⟨x, hx, ha⟩ := D.var
  intro m
  induction m with
  | zero =>
    intro n hm hn
    obtain ⟨n, rfl⟩ : ∃ j, n = j + 1 := ⟨n - 1, by omega⟩
    refine ⟨b, h, ?_, by simpa [land] using hb, Keep.refl _ _⟩
    rw [loopK_succ]
    generalize loopK (_ : (List AV → Heap → Option (AV × Heap)) → List AV → Heap → Option (AV × Heap)) n = Lp
    have e : decide ((0 : Int) ≤ ((0 : Nat) : Int) - 1) = false := by decide
    simp -implicitDefEqProofs only [B38_1, ↓RK, RK, ↓RB, RB, decide_true, decide_false, STs, Nat.reduceBEq, ↓reduceIte, Nat.reduceLT, ↓R38, R38, bin_geq, e]
  | succ m ih =>
    intro n hm hn
    obtain ⟨n, rfl⟩ : ∃ j, n = j + 1 := ⟨n - 1, by omega⟩
    have hlt : m < d.loose.length := by omega
    have hw : d.loose[m]? = some d.loose[m] := List.getElem?_eq_getElem hlt
    have hwl := D.loose _ (List.getElem_mem hlt)
    have e8 : (((m + 1 : Nat) : Int) - 1) = (m : Int) := by omega
    rw [e8]
    have e : decide ((0 : Int) ≤ (m : Int)) = true := decide_eq_true (by omega)
    have wr : IntKind.i64.wrap ((m : Int) - 1) = (m : Int) - 1 := by rw [wrap_i64] <;> omega
    have tk : d.loose.take (m + 1) = d.loose.take m ++ [d.loose[m]] := by rw [List.take_add_one, hw]; rfl
    rw [tk, land_snoc]
    generalize d.loose[m] = w at *
    by_cases hwi : w.1 = i
    · have e1 : decide (((w.1 : Nat) : Int) = (i : Nat)) = true := decide_eq_true (by omega)
      have bs : By U h (.vsl 5 (w.2.map U8) .none) w.2 := .inl (.inr ⟨_, rfl⟩)
      obtain ⟨x', h', h1, h2, h3⟩ := clone_ok bs (by omega) N
      have sl := sl89v (w.2.map U8) (by simp [hwl.2])
      have hc : ((((land d.lasts (d.loose.take m)).set w.1 w.2)[i]?).getD []) = w.2 := by
        rw [hwi, List.getElem?_set_self (by rw [land_length]; exact hi)]; rfl
      refine ⟨x', h', ?_, by rw [hc]; exact Ap.mono h2 fun j hj => up j hj, h3.up up⟩
      rw [loopK_succ]
      generalize loopK (_ : (List AV → Heap → Option (AV × Heap)) → List AV → Heap → Option (AV × Heap)) n = Lp
      simp -implicitDefEqProofs only [B38_1, ↓RK, RK, ↓RB, RB, decide_true, decide_false, STs, Nat.reduceBEq, ↓reduceIte, Nat.reduceLT, ↓R38, R38, bin_geq, e, bin_eql, dp_chk, dpf1, dld1 hx, idx82 ha hw, fa91v_0, load3v, e1, fa91v_1, cellAV, sl, h1]
    · have e1 : decide (((w.1 : Nat) : Int) = (i : Nat)) = false := decide_eq_false (by omega)
      obtain ⟨x', h', h1, h2, h3⟩ := ih n (by omega) (by omega)
      have hc : (((land d.lasts (d.loose.take m)).set w.1 w.2)[i]?) = (land d.lasts (d.loose.take m))[i]? := List.getElem?_set_ne hwi
      refine ⟨x', h', ?_, by rw [hc]; exact h2, h3⟩
      rw [loopK_succ, ← h1]
      generalize loopK (_ : (List AV → Heap → Option (AV × Heap)) → List AV → Heap → Option (AV × Heap)) n = Lp
      simp -implicitDefEqProofs only [B38_1, ↓RK, RK, ↓RB, RB, decide_true, decide_false, STs, Nat.reduceBEq, ↓reduceIte, Nat.reduceLT, ↓R38, R38, bin_geq, e, bin_eql, dp_chk, dpf1, dld1 hx, idx82 ha hw, fa91v_0, load3v, e1, bin_sub, wr]
theorem ext0 (x y : AV) : aExtract (.tuple [x, y]) 0 = some x := rfl
theorem ext1 (x y : AV) : aExtract (.tuple [x, y]) 1 = some y := rfl
theorem read_ok {S : Obs} {p r : Nat} {h : Heap} {d : Dk} (D : Dsk S h p r d) (hl : d.loose.length < 2 ^ 30) (i : Int) (k : Nat) (hk : d.loose.length + 5 < k) :
    ∃ x' h', exFn C0 E0 (k + 1) false 38 [dp p, .int .i64 i] h = some (.tuple [x', .int .i64 (d.read i).2], h') ∧ ApB (From h.length) h' x' (d.read i).1 ∧ Keep (From h.length) h h' := by
  have n0 : ([dp p, .int .i64 i] ++ List.replicate (48 - [dp p, .int .i64 i].length) AV.undef) = st 48 [(0, dp p), (1, .int .i64 i)] := rfl
  obtain ⟨k, rfl⟩ : ∃ j, k = j + 4 := ⟨k - 4, by omega⟩
  obtain ⟨b, h1, l1, l2, l3⟩ := lasts_ok D i (k + 1)
  have up := Up.fresh h
  have D1 := D.fresh l3
  obtain ⟨y, h2, p1, p2, p3⟩ := pending_ok D1 hl (k + 3) (by omega)
  have hlen := len93 p2
  simp only [List.length_map] at hlen
  have up1 := up.keep l3
  have l2' := l2.fresh p3
  have k2 := l3.fresh p3 up
  have wr : IntKind.i64.wrap ((d.loose.length : Int) - 1) = (d.loose.length : Int) - 1 := by rw [wrap_i64] <;> omega
  have D2 := D1.fresh p3
  unfold Dk.read
  by_cases h0 : d.has i
  · rw [if_pos h0]
    unfold Dk.lastsAt at l1 l2'
    rw [if_pos h0] at l1 l2'
    obtain ⟨n, rfl⟩ : ∃ n : Nat, i = n := ⟨i.toNat, by have := h0.1; omega⟩
    have hn : n < d.lasts.length := by have := h0.2; omega
    obtain ⟨x', h', q1, q2, q3⟩ := read_loop D2 (up1.keep p3) hl n b l2' (k + 3) hn d.loose.length (k + 4) (Nat.le_refl _) (by omega)
    rw [List.take_length] at q2
    refine ⟨x', h', exFn_of e38 ?_, q2, k2.trans q3⟩
    rw [fnK, n0, s38]
    simp -implicitDefEqProofs only [↓RK, RK, ↓RB, RB, decide_true, decide_false, STs, Nat.reduceBEq, ↓reduceIte, Nat.reduceLT, ↓R38, R38, l1, ext0, ext1, p1, hlen, bin_sub, wr]
    exact q1
  · rw [if_neg h0]
    unfold Dk.lastsAt at l1 l2'
    rw [if_neg h0] at l1 l2'
    refine ⟨b, h2, exFn_of e38 ?_, l2', k2⟩
    rw [fnK, n0, s38]
    simp -implicitDefEqProofs only [↓RK, RK, ↓RB, RB, decide_true, decide_false, STs, Nat.reduceBEq, ↓reduceIte, Nat.reduceLT, ↓R38, R38, l1, ext0, ext1, p1, hlen, bin_sub, wr]
    rw [loopK_succ]
    generalize loopK (_ : (List AV → Heap → Option (AV × Heap)) → List AV → Heap → Option (AV × Heap)) (k + 3) = Lp
    have e1 : aBinC tab .eql 27 (.int .i64 1) (.int .i64 0) true = some (.bool false) := by simp
    by_cases hm : (0 : Int) ≤ (d.loose.length : Int) - 1
    · have e : decide ((0 : Int) ≤ (d.loose.length : Int) - 1) = true := decide_eq_true hm
      simp -implicitDefEqProofs only [B38_1, ↓RK, RK, ↓RB, RB, decide_true, decide_false, STs, Nat.reduceBEq, ↓reduceIte, Nat.reduceLT, ↓R38, R38, bin_geq, e, e1]
    · have e : decide ((0 : Int) ≤ (d.loose.length : Int) - 1) = false := decide_eq_false hm
      simp -implicitDefEqProofs only [B38_1, ↓RK, RK, ↓RB, RB, decide_true, decide_false, STs, Nat.reduceBEq, ↓reduceIte, Nat.reduceLT, ↓R38, R38, bin_geq, e]
end Go.Ax

set_option linter.unusedVariables false
namespace Go.Ax
open Go Go.Proofs
noncomputable def O18 (i : Nat) : Array Oper := opsOf i (bodyOf Try.f18)
noncomputable def B18_1 : Code := (.seq (.region 6 (O18 6) false) (.seq (.cond (Go.Operand.tmp 18) .skip (.exit 1)) (.seq (.block 2 (.seq (.region 7 (O18 7) false) (.region 8 (O18 8) true))) (.region 9 (O18 9) false))))
theorem s18 : bodyOf Try.f18 = (.seq (.region 0 (O18 0) false) (.seq (.block 0 (.seq (.region 1 (O18 1) false) (.cond (Go.Operand.tmp 5) (.seq (.region 2 (O18 2) false) .ret) (.seq (.region 3 (O18 3) false) (.cond (Go.Operand.tmp 8) (.seq (.region 4 (O18 4) false) .ret) .skip))))) (.seq (.seq (.region 5 (O18 5) false) (.block 1 (.loop B18_1))) (.seq (.region 10 (O18 10) false) (.seq (.region 11 (O18 11) false) .ret))))) := by kernel_rfl
theorem e18 : E0 18 = some ⟨34, [2], bodyOf Try.f18⟩ := by kernel_rfl
theorem r18_0 (x0 : AV) : RR O18 18 34 0 false [(0, x0)] fun _ call md k h =>
 k .normal (st 34 [(0, x0)]) h
 := fun _ _ _ _ _ _ => by kernel_rfl
theorem r18_1 (x0 : AV) : RR O18 18 34 1 false [(0, x0)] fun _ call md k h =>
 bnd (aBinC tab .eql 25 x0 .nilp true) fun v1 =>
 k .normal (st 34 [(0, x0), (5, v1)]) h
 := fun _ _ _ _ _ _ => by kernel_rfl
theorem r18_2 (x0 x5 : AV) : RR O18 18 34 2 false [(0, x0), (5, x5)] fun _ call md k h =>
 k .normal (st 34 [(2, (.int .i64 1))]) h
 := fun _ _ _ _ _ _ => by kernel_rfl
theorem r18_3 (x0 x5 : AV) : RR O18 18 34 3 false [(0, x0), (5, x5)] fun _ call md k h =>
 bnd2 (call md 50 [x0] h) fun v1 h2 =>
 bnd (aUn .not v1) fun v3 =>
 k .normal (st 34 [(0, x0), (8, v3)]) h2
 := fun _ _ _ _ _ _ => by kernel_rfl
theorem r18_4 (x0 x8 : AV) : RR O18 18 34 4 false [(0, x0), (8, x8)] fun _ call md k h =>
 k .normal (st 34 [(2, (.int .i64 4))]) h
 := fun _ _ _ _ _ _ => by kernel_rfl
theorem r18_5 (x0 x8 : AV) : RR O18 18 34 5 false [(0, x0), (8, x8)] fun _ call md k h =>
 bnd (aNil x0) fun v1 =>
 bnd (aFieldAddr tab 84 v1 1) fun v2 =>
 bnd (aLoad tab 82 v2 h) fun v3 =>
 bnd (aLen tab 82 v3) fun v4 =>
 k .normal (st 34 [(0, x0), (15, v3), (16, v4), (17, (.int .i64 0))]) h
 := fun _ _ _ _ _ _ => by kernel_rfl
theorem r18_6 (x0 x15 x16 x17 : AV) : RR O18 18 34 6 false [(0, x0), (15, x15), (16, x16), (17, x17)] fun _ call md k h =>
 bnd (aBinC tab .lss 3 x17 x16 false) fun v1 =>
 k .normal (st 34 [(0, x0), (15, x15), (16, x16), (17, x17), (18, v1)]) h
 := fun _ _ _ _ _ _ => by kernel_rfl
theorem r18_7 (x0 x15 x16 x17 x18 : AV) : RR O18 18 34 7 false [(0, x0), (15, x15), (16, x16), (17, x17), (18, x18)] fun _ call md k h =>
 bnd (aIndexAddr tab 82 x15 x17) fun v1 =>
 bnd (aLoad tab 91 v1 h) fun v2 =>
 bnd2 (aAlloc tab 91 h) fun v3 h4 =>
 bnd (aStore tab 91 v3 v2 h4) fun h5 =>
 k .normal (st 34 [(0, x0), (4, v3), (15, x15), (16, x16), (17, x17)]) h5
 := fun _ _ _ _ _ _ => by kernel_rfl
theorem r18_8 (x0 x4 x15 x16 x17 : AV) : RR O18 18 34 8 true [(0, x0), (4, x4), (15, x15), (16, x16), (17, x17)] fun _ call md k h =>
 bnd (aNil x0) fun v1 =>
 bnd (aFieldAddr tab 84 v1 0) fun v2 =>
 bnd (aLoad tab 81 v2 h) fun v3 =>
 bnd (aFieldAddr tab 91 x4 0) fun v4 =>
 bnd (aLoad tab 3 v4 h) fun v5 =>
 bnd (aFieldAddr tab 91 x4 1) fun v6 =>
 bnd (aLoad tab 89 v6 h) fun v7 =>
 bnd (aIndexAddr tab 81 v3 v5) fun v8 =>
 bnd (aStore tab 89 v8 v7 h) fun h9 =>
 k .normal (st 34 [(0, x0), (15, x15), (16, x16), (17, x17)]) h9
 := RRd (by kernel_rfl) (by kernel_rfl) (fun _ _ _ _ _ => by kernel_rfl)
theorem r18_9 (x0 x15 x16 x17 : AV) : RR O18 18 34 9 false [(0, x0), (15, x15), (16, x16), (17, x17)] fun _ call md k h =>
 bnd (aBinC tab .add 3 x17 (.int .i64 1) true) fun v1 =>
 k .normal (st 34 [(0, x0), (15, x15), (16, x16), (17, v1)]) h
 := fun _ _ _ _ _ _ => by kernel_rfl
theorem r18_10 (x0 x15 x16 x17 x18 : AV) : RR O18 18 34 10 false [(0, x0), (15, x15), (16, x16), (17, x17), (18, x18)] fun _ call md k h =>
 bnd (aNil x0) fun v1 =>
 bnd (aFieldAddr tab 84 v1 1) fun v2 =>
 bnd (aStore tab 82 v2 .nils h) fun h3 =>
 k .normal (st 34 []) h3
 := fun _ _ _ _ _ _ => by kernel_rfl
theorem r18_11 : RR O18 18 34 11 false [] fun _ call md k h =>
 k .normal (st 34 [(2, (.int .i64 0))]) h
 := fun _ _ _ _ _ _ => by kernel_rfl
def R18 := And.intro @r18_0 <| And.intro @r18_1 <| And.intro @r18_2 <| And.intro @r18_3 <| And.intro @r18_4 <| And.intro @r18_5 <| And.intro @r18_6 <| And.intro @r18_7 <| And.intro @r18_8 <| And.intro @r18_9 <| And.intro @r18_10 <| @r18_11
end Go.Ax

namespace Go.Ax
open Go Go.Proofs
def newN (n : Int) : Nat := (min (max n 0) 1024).toNat
def Dk.new (n : Int) : Dk := ⟨List.replicate (newN n) (List.replicate 64 0), [], -1, false⟩
theorem bld84a (r n : Nat) : aBuild tab 84 [(0, .msl r [] 88 0 n), (2, .int .i64 (-1))] = some (.agg 83 [.msl r [] 88 0 n, .nils, .int .i64 (-1), .bool false]) := by kernel_rfl
theorem bld84b : aBuild tab 84 [(0, .vsl 88 [] .none), (2, .int .i64 (-1))] = some (.agg 83 [.vsl 88 [] .none, .nils, .int .i64 (-1), .bool false]) := by kernel_rfl
theorem bld84 (r n : Nat) : aBuild tab 84 [(0, lastsAV r n), (2, .int .i64 (-1))] = some (.agg 83 [lastsAV r n, .nils, .int .i64 (-1), .bool false]) := by
  unfold lastsAV
  split
  · exact bld84b
  · exact bld84a r n
theorem box84 (v : AV) (fs : List AV) (hv : v = .agg 83 fs) (h : Heap) : aBoxv tab 84 v h = some (.ref h.length [] 83, h ++ [.var 84 v]) := by
  subst hv; simp [aBoxv, fits]
theorem make81 (n : Nat) (hn : n ≤ 1024) (h : Heap) : aMake tab 81 (.int .i64 n) (.int .i64 n) h =
    some (lastsAV h.length n, if n = 0 then h else h ++ [.row 88 (List.replicate n (cellAV (List.replicate 64 0)))]) := by
  have e : aZeros tab 81 (.int .i64 n) (.int .i64 n) = some (88, n, n, cellAV (List.replicate 64 0)) := by
    simp only [aZeros, td81, tb89, tz89, tu89]
    rw [if_pos ⟨by omega, by omega, by omega, by omega⟩]
    simp [cellAV, U8]
  simp only [aMake, e, Option.map_some, lastsAV]
  split <;> rfl
theorem new_ok (n : Int) (h : Heap) (md : Bool) (k : Nat) :
    ∃ p r h', exFn C0 E0 (k + 1) md 13 [.int .i64 n] h = some (dp p, h') ∧ Dsk (From h.length) h' p r (Dk.new n) ∧ Keep (From h.length) h h' := by
  have n0 : ([AV.int .i64 n] ++ List.replicate (9 - [AV.int .i64 n].length) AV.undef) = st 9 [(0, .int .i64 n)] := rfl
  have em : (if (1024 : Int) < (if n < 0 then 0 else n) then 1024 else (if n < 0 then 0 else n)) = (newN n : Nat) := by
    unfold newN; split <;> split <;> omega
  have hN : newN n ≤ 1024 := by unfold newN; omega
  let h1 : Heap := if newN n = 0 then h else h ++ [.row 88 (List.replicate (newN n) (cellAV (List.replicate 64 0)))]
  have k1 : Keep (From h.length) h h1 := by
    simp only [h1]
    split
    · exact Keep.refl _ _
    · exact Keep.app h _ (Up.fresh h)
  have hr : newN n ≠ 0 → h1[h.length]? = some (.row 88 (List.replicate (newN n) (cellAV (List.replicate 64 0)))) := fun hn => by
    simp only [h1]; rw [if_neg hn]; simp
  have mk := make81 (newN n) hN h
  rw [show (if newN n = 0 then h else h ++ [Obj.row 88 (List.replicate (newN n) (cellAV (List.replicate 64 0)))]) = h1 from rfl] at mk
  clear_value h1
  have bx := box84 (.agg 83 [lastsAV h.length (newN n), .nils, .int .i64 (-1), .bool false]) _ rfl h1
  refine ⟨h1.length, h.length, h1 ++ [.var 84 (.agg 83 [lastsAV h.length (newN n), .nils, .int .i64 (-1), .bool false])], exFn_of e13 ?_, ?_, k1.trans (Keep.app h1 _ ((Up.fresh h).keep k1))⟩
  · rw [fnK, n0, s13]
    simp -implicitDefEqProofs only [↓RK, RK, ↓RB, RB, decide_true, decide_false, STs, Nat.reduceBEq, ↓reduceIte, Nat.reduceLT, ↓R13, R13, max2_i64, min2_i64, em, mk, bld84, bx]
  · refine ⟨k1.1, fun _ => Nat.le_refl _, ⟨.nils, by simp [dv, Dk.new], .inl ⟨rfl, rfl⟩⟩, fun hne => ?_, fun b hb => ?_, fun w hw => by simp [Dk.new] at hw, by simpa [Dk.new] using hN⟩
    · have hn : newN n ≠ 0 := by intro e; apply hne; simp [Dk.new, e]
      have := hr hn
      rw [List.getElem?_append_left (List.getElem?_eq_some_iff.1 this).1, this]
      simp [Dk.new]
    · simp only [Dk.new, List.mem_replicate] at hb
      rw [hb.2]; simp
def Dk.flush (d : Dk) : Int × Dk := if d.burn.down then (4, d.burn) else (0, ⟨d.now, [], d.burn.fuse, d.burn.down⟩)
theorem fits89 (c : List UInt8) : fits tab 89 (cellAV c) = true := by kernel_rfl
theorem store_cell {h : Heap} {r i : Nat} {l : List (List UInt8)} {c : List UInt8} (hr : h[r]? = some (.row 88 (l.map cellAV))) (hi : i < l.length) :
    aStore tab 89 (.ref r [i] 88) (cellAV c) h = some (h.set r (.row 88 ((l.set i c).map cellAV))) := by
  simp [aStore, fits89, hr, objSet, setP, hi, List.map_set]
theorem flush_loop {S : Obs} {h0 : Heap} {p r : Nat} {y : AV} {lasts : List (List UInt8)} {L : List (Nat × List UInt8)} {f : Int} {w : Bool} (hy : Ap 90 S h0 y (L.map writeAV)) (hL : L.length < 2 ^ 30)
    (hws : ∀ w ∈ L, w.1 < lasts.length) (hs : lasts ≠ [] → S r) (call : CallF) (N : Nat) (md : Bool) :
    ∀ (m i n : Nat) (h : Heap), i + m = L.length → m < n → Up S h → h[p]? = some (dv r lasts.length y f w) → (lasts ≠ [] → h[r]? = some (.row 88 ((land lasts (L.take i)).map cellAV))) →
    ∃ h', (∀ K : Ex → List AV → Heap → Option (AV × Heap), loopK (fun next => runK C0 call md 18 N B18_1 (seqE next K)) n (st 34 [(0, dp p), (15, y), (16, .int .i64 L.length), (17, .int .i64 i)]) h =
      K (.exit 1) (st 34 [(0, dp p), (15, y), (16, .int .i64 L.length), (17, .int .i64 L.length), (18, .bool false)]) h') ∧
      h'[p]? = some (dv r lasts.length y f w) ∧ (lasts ≠ [] → h'[r]? = some (.row 88 ((land lasts L).map cellAV))) ∧ Keep S h h' := by
  intro m
  induction m with
  | zero =>
    intro i n h hi hn up hp hr
    obtain ⟨n, rfl⟩ : ∃ j, n = j + 1 := ⟨n - 1, by omega⟩
    obtain rfl : i = L.length := by omega
    refine ⟨h, fun K => ?_, hp, by simpa using hr, Keep.refl _ _⟩
    rw [loopK_succ]
    generalize loopK (_ : (List AV → Heap → Option (AV × Heap)) → List AV → Heap → Option (AV × Heap)) n = Lp
    have e : decide (((L.length : Nat) : Int) < (L.length : Nat)) = false := decide_eq_false (by omega)
    simp -implicitDefEqProofs only [B18_1, ↓RK, RK, ↓RB, RB, decide_true, decide_false, STs, Nat.reduceBEq, ↓reduceIte, Nat.reduceLT, ↓R18, R18, bin_lss, e]
  | succ m ih =>
    intro i n h hi hn up hp hr
    obtain ⟨n, rfl⟩ : ∃ j, n = j + 1 := ⟨n - 1, by omega⟩
    have hlt : i < L.length := by omega
    have hw : L[i]? = some L[i] := List.getElem?_eq_getElem hlt
    have hwl := hws _ (List.getElem_mem hlt)
    have tk : L.take (i + 1) = L.take i ++ [L[i]] := by rw [List.take_add_one, hw]; rfl
    have e : decide (((i : Nat) : Int) < (L.length : Nat)) = true := decide_eq_true (by omega)
    have wr : IntKind.i64.wrap ((i : Int) + 1) = ((i + 1 : Nat) : Int) := by rw [wrap_i64] <;> omega
    generalize L[i] = v at *
    have hne : lasts ≠ [] := by intro e; rw [e] at hwl; simp at hwl
    have k1 : Keep (From h.length) h (h ++ [.var 91 (writeAV v)]) := Keep.app h _ (Up.fresh h)
    have hq : (h ++ [.var 91 (writeAV v)])[h.length]? = some (.var 91 (writeAV v)) := by simp
    have hsn := sn91 h v
    have hp1 : (h ++ [.var 91 (writeAV v)])[p]? = some (dv r lasts.length y f w) := by rw [List.getElem?_append_left (List.getElem?_eq_some_iff.1 hp).1]; exact hp
    have hr1 : (h ++ [.var 91 (writeAV v)])[r]? = some (.row 88 ((land lasts (L.take i)).map cellAV)) := by rw [List.getElem?_append_left (List.getElem?_eq_some_iff.1 (hr hne)).1]; exact hr hne
    have kk := k1.up up
    generalize h ++ [Obj.var 91 (writeAV v)] = H at *
    have sc := store_cell (c := v.2) hr1 (by rw [land_length]; exact hwl)
    have hrp : r ≠ p := by intro e; subst e; rw [hp1] at hr1; cases hr1
    have k2 : Keep S H (H.set r (.row 88 (((land lasts (L.take i)).set v.1 v.2).map cellAV))) := Keep.set H _ (hs hne)
    have hp2 : (H.set r (.row 88 (((land lasts (L.take i)).set v.1 v.2).map cellAV)))[p]? = some (dv r lasts.length y f w) := by rw [List.getElem?_set_ne hrp]; exact hp1
    have hr2 : (H.set r (.row 88 (((land lasts (L.take i)).set v.1 v.2).map cellAV)))[r]? = some (.row 88 ((land lasts (L.take (i + 1))).map cellAV)) := by
      rw [tk, land_snoc]; simp [(List.getElem?_eq_some_iff.1 hr1).1]
    obtain ⟨h', h1, h2, h3, h4⟩ := ih (i + 1) n _ (by omega) (by omega) ((up.keep kk).keep k2) hp2 (fun _ => hr2)
    refine ⟨h', fun K => ?_, h2, h3, (kk.trans k2).trans h4⟩
    rw [loopK_succ, ← h1 K]
    generalize loopK (_ : (List AV → Heap → Option (AV × Heap)) → List AV → Heap → Option (AV × Heap)) n = Lp
    simp -implicitDefEqProofs only [B18_1, ↓RK, RK, ↓RB, RB, decide_true, decide_false, STs, Nat.reduceBEq, ↓reduceIte, Nat.reduceLT, ↓R18, R18, bin_lss, e, idx82 hy hw, load91v, alloc91, hsn, dp_chk, dpf0, dld0 hp1, fa91_0, wld0 hq, fa91_1, wld1 hq, idx81 r _ v.1 hwl, sc, bin_add, wr]
theorem flush_ok {S : Obs} {p r : Nat} {h : Heap} {d : Dk} (D : Dsk S h p r d) (up : Up S h) (hl : d.loose.length < 2 ^ 30) (hf : d.fuse < 2 ^ 63) (md : Bool) (k : Nat) (hk : d.loose.length < k) :
    ∃ h', exFn C0 E0 (k + 1) md 18 [dp p] h = some (.int .i64 d.flush.1, h') ∧ Dsk S h' p r d.flush.2 ∧ Keep S h h' := by
  have n0 : ([dp p] ++ List.replicate (34 - [dp p].length) AV.undef) = st 34 [(0, dp p)] := rfl
  obtain ⟨k, rfl⟩ : ∃ j, k = j + 1 := ⟨k - 1, by omega⟩
  obtain ⟨h1, b1, D1, k1, -, -⟩ := burn_ok D hf md k
  unfold Dk.flush
  cases hdn : d.burn.down
  case true =>
    rw [hdn] at b1
    refine ⟨h1, exFn_of e18 ?_, D1, k1⟩
    rw [fnK, n0, s18]
    simp -implicitDefEqProofs only [↓RK, RK, ↓RB, RB, decide_true, decide_false, STs, Nat.reduceBEq, ↓reduceIte, Nat.reduceLT, ↓R18, R18, dp_nil, b1, un_not, Bool.not_true, Bool.not_false]
  case false =>
    rw [if_neg Bool.false_ne_true]
    rw [hdn] at b1
    obtain ⟨x, hx, ha⟩ := D1.var
    have hx' : h1[p]? = some (dv r d.lasts.length x d.burn.fuse d.burn.down) := hx
    rw [hdn] at hx'
    have hlen := len82 ha
    rw [List.length_map] at hlen
    have up1 := up.keep k1
    obtain ⟨h2, f1, f2, f3, f4⟩ := flush_loop (f := d.burn.fuse) (w := false) ha hl (fun w hw => (D1.loose w hw).1) D1.hr (exFn C0 E0 (k + 1)) (k + 1) md d.loose.length 0 (k + 1) h1 (by simp [Dk.burn]) (by omega) up1 hx'
      (fun hne => by simpa [land] using D1.row hne)
    rw [show ((0 : Nat) : Int) = 0 from rfl] at f1
    rw [show d.burn.loose = d.loose from rfl] at f1 f3 hlen
    have hlt : p < h2.length := (List.getElem?_eq_some_iff.1 f2).1
    refine ⟨h2.set p (dv r d.lasts.length .nils d.burn.fuse false), exFn_of e18 ?_, ?_, (k1.trans f4).trans (Keep.set h2 _ D.hp)⟩
    · rw [fnK, n0, s18]
      simp -implicitDefEqProofs only [↓RK, RK, ↓RB, RB, decide_true, decide_false, STs, Nat.reduceBEq, ↓reduceIte, Nat.reduceLT, ↓R18, R18, dp_nil, b1, un_not, Bool.not_true, Bool.not_false, dp_chk, dpf1, dld1 hx', hlen]
      rw [f1]
      simp -implicitDefEqProofs only [↓RK, RK, ↓RB, RB, decide_true, decide_false, STs, Nat.reduceBEq, ↓reduceIte, Nat.reduceLT, ↓R18, R18, dp_chk, dpf1, dst1 f2 (y := .nils) rfl]
      rfl
    · have hnl : d.now.length = d.lasts.length := land_length _ _
      refine ⟨D.hp, fun hne => D.hr (by intro e; apply hne; simpa [e] using hnl), ⟨.nils, ?_, .inl ⟨rfl, rfl⟩⟩, fun hne => ?_, land_cells _ _ D.cells fun w hw => (D.loose w hw).2, fun w hw => (List.not_mem_nil hw).elim, by rw [hnl]; exact D.few⟩
      · rw [List.getElem?_set_self hlt, hnl]
      · have hne' : d.lasts ≠ [] := by intro e; apply hne; simpa [e] using hnl
        have hr := f3 hne'
        rw [List.getElem?_set_ne]
        · exact hr
        · intro e
          subst e
          rw [f2] at hr
          cases hr
end Go.Ax

set_option linter.unusedVariables false
namespace Go.Ax
open Go Go.Proofs
noncomputable def O48 (i : Nat) : Array Oper := opsOf i (bodyOf Try.f48)
noncomputable def B48_1 : Code := (.seq (.seq (.region 9 (O48 9) false) (.cond (Go.Operand.tmp 67) .skip (.exit 0))) (.seq (.block 1 (.seq (.region 11 (O48 11) false) (.region 12 (O48 12) false))) (.region 10 (O48 10) false)))
theorem s48 : bodyOf Try.f48 = (.seq (.region 0 (O48 0) false) (.seq (.region 1 (O48 1) false) (.seq (.seq (.region 2 (O48 2) true) (.cond (Go.Operand.tmp 46) (.seq (.region 3 (O48 3) false) .ret) .skip)) (.seq (.region 4 (O48 4) false) (.seq (.seq (.region 5 (O48 5) false) (.cond (Go.Operand.tmp 63) (.seq (.region 6 (O48 6) false) .ret) .skip)) (.seq (.region 7 (O48 7) false) (.seq (.seq (.region 8 (O48 8) false) (.block 0 (.loop B48_1))) (.seq (.region 13 (O48 13) false) (.seq (.region 14 (O48 14) false) (.seq (.region 15 (O48 15) true) .ret)))))))))) := by kernel_rfl
theorem e48 : E0 48 = some ⟨104, [8, 9], bodyOf Try.f48⟩ := by kernel_rfl
theorem r48_0 (x0 x1 x2 x3 : AV) : RR O48 48 104 0 false [(0, x0), (1, x1), (2, x2), (3, x3)] fun _ call md k h =>
 k .normal (st 104 [(0, x0), (1, x1), (2, x2), (3, x3)]) h
 := fun _ _ _ _ _ _ => by kernel_rfl
theorem r48_1 (x0 x1 x2 x3 : AV) : RR O48 48 104 1 false [(0, x0), (1, x1), (2, x2), (3, x3)] fun _ call md k h =>
 bnd2 (call md 38 [x0, x1] h) fun v1 h2 =>
 bnd (aExtract v1 0) fun v3 =>
 bnd (aExtract v1 1) fun v4 =>
 k .normal (st 104 [(0, x0), (1, x1), (2, x2), (3, x3), (10, v3), (11, v4)]) h2
 := fun _ _ _ _ _ _ => by kernel_rfl
theorem r48_2 (x0 x1 x2 x3 x10 x11 : AV) : RR O48 48 104 2 true [(0, x0), (1, x1), (2, x2), (3, x3), (10, x10), (11, x11)] fun _ call md k h =>
 bnd (aBinC tab .neq 27 x11 (.int .i64 0) true) fun v1 =>
 gd false v1 h (fun k => k x1 h) fun v2 h3 =>
 gd false v1 h3 (fun k => k x2 h3) fun v4 h5 =>
 gd false v1 h5 (fun k => bnd (aBinC tab .geq 3 v2 v4 false) (k · h5)) fun v6 h7 =>
 bnd (aPick v1 (.bool true) v6) fun v8 =>
 gd false v8 h7 (fun k => k x10 h7) fun v9 h10 =>
 gd false v8 h10 (fun k => bnd2 (call md 72 [v9] h10) k) fun v11 h12 =>
 gd false v8 h12 (fun k => k x3 h12) fun v13 h14 =>
 gd false v8 h14 (fun k => bnd (aConv tab 3 105 v13 h14) (k · h14)) fun v15 h16 =>
 gd false v8 h16 (fun k => bnd (aBinC tab .neq 105 v11 v15 false) (k · h16)) fun v17 h18 =>
 bnd (aPick v8 (.bool true) v17) fun v19 =>
 gd false v19 h18 (fun k => k x10 h18) fun v20 h21 =>
 gd false v19 h21 (fun k => bnd (aSlice tab 22 v20 none (some (.int .i64 12)) none) (k · h21)) fun v22 h23 =>
 gd false v19 h23 (fun k => bnd2 (call md 71 [v22] h23) k) fun v24 h25 =>
 gd false v19 h25 (fun k => k x10 h25) fun v26 h27 =>
 gd false v19 h27 (fun k => bnd (aSlice tab 22 v26 (some (.int .i64 12)) none none) (k · h27)) fun v28 h29 =>
 gd false v19 h29 (fun k => bnd2 (call md 72 [v28] h29) k) fun v30 h31 =>
 gd false v19 h31 (fun k => bnd (aBinC tab .neq 105 v24 v30 false) (k · h31)) fun v32 h33 =>
 bnd (aPick v19 (.bool true) v32) fun v34 =>
 k .normal (st 104 [(0, x0), (1, x1), (2, x2), (3, x3), (10, x10), (46, v34)]) h33
 := RRd (by kernel_rfl) (by kernel_rfl) (fun _ _ _ _ _ => by kernel_rfl)
theorem r48_3 (x0 x1 x2 x3 x10 x46 : AV) : RR O48 48 104 3 false [(0, x0), (1, x1), (2, x2), (3, x3), (10, x10), (46, x46)] fun _ call md k h =>
 k .normal (st 104 [(8, .nils), (9, (.bool false))]) h
 := fun _ _ _ _ _ _ => by kernel_rfl
theorem r48_4 (x0 x1 x2 x3 x10 x46 : AV) : RR O48 48 104 4 false [(0, x0), (1, x1), (2, x2), (3, x3), (10, x10), (46, x46)] fun _ call md k h =>
 bnd (aSlice tab 22 x10 (some (.int .i64 4)) none none) fun v1 =>
 bnd2 (call md 72 [v1] h) fun v2 h3 =>
 bnd (aConv tab 105 3 v2 h3) fun v4 =>
 k .normal (st 104 [(0, x0), (1, x1), (2, x2), (3, x3), (10, x10), (12, v4)]) h3
 := fun _ _ _ _ _ _ => by kernel_rfl
theorem r48_5 (x0 x1 x2 x3 x10 x12 : AV) : RR O48 48 104 5 false [(0, x0), (1, x1), (2, x2), (3, x3), (10, x10), (12, x12)] fun _ call md k h =>
 bnd (aBinC tab .gtr 3 x12 (.int .i64 8192) true) fun v1 =>
 gd false v1 h (fun k => k x12 h) fun v2 h3 =>
 gd false v1 h3 (fun k => bnd2 (call md 45 [v2] h3) k) fun v4 h5 =>
 gd false v1 h5 (fun k => k x2 h5) fun v6 h7 =>
 gd false v1 h7 (fun k => k x0 h7) fun v8 h9 =>
 gd false v1 h9 (fun k => bnd2 (call md 46 [v8] h9) k) fun v10 h11 =>
 gd false v1 h11 (fun k => bnd (aMin [v6, v10]) (k · h11)) fun v12 h13 =>
 gd false v1 h13 (fun k => k x1 h13) fun v14 h15 =>
 gd false v1 h15 (fun k => bnd (aBinC tab .sub 3 v12 v14 false) (k · h15)) fun v16 h17 =>
 gd false v1 h17 (fun k => bnd (aBinC tab .gtr 3 v4 v16 false) (k · h17)) fun v18 h19 =>
 bnd (aPick v1 (.bool true) v18) fun v20 =>
 k .normal (st 104 [(0, x0), (1, x1), (3, x3), (10, x10), (12, x12), (63, v20)]) h19
 := fun _ _ _ _ _ _ => by kernel_rfl
theorem r48_6 (x0 x1 x3 x10 x12 x63 : AV) : RR O48 48 104 6 false [(0, x0), (1, x1), (3, x3), (10, x10), (12, x12), (63, x63)] fun _ call md k h =>
 k .normal (st 104 [(8, .nils), (9, (.bool false))]) h
 := fun _ _ _ _ _ _ => by kernel_rfl
theorem r48_7 (x0 x1 x3 x10 x12 x63 : AV) : RR O48 48 104 7 false [(0, x0), (1, x1), (3, x3), (10, x10), (12, x12), (63, x63)] fun _ call md k h =>
 k .normal (st 104 [(0, x0), (1, x1), (3, x3), (10, x10), (12, x12), (13, .nils)]) h
 := fun _ _ _ _ _ _ => by kernel_rfl
theorem r48_8 (x0 x1 x3 x10 x12 x13 : AV) : RR O48 48 104 8 false [(0, x0), (1, x1), (3, x3), (10, x10), (12, x12), (13, x13)] fun _ call md k h =>
 k .normal (st 104 [(0, x0), (1, x1), (3, x3), (10, x10), (12, x12), (13, x13), (14, (.int .i64 1))]) h
 := fun _ _ _ _ _ _ => by kernel_rfl
theorem r48_9 (x0 x1 x3 x10 x12 x13 x14 : AV) : RR O48 48 104 9 false [(0, x0), (1, x1), (3, x3), (10, x10), (12, x12), (13, x13), (14, x14)] fun _ call md k h =>
 bnd2 (call md 45 [x12] h) fun v1 h2 =>
 bnd (aBinC tab .lss 3 x14 v1 false) fun v3 =>
 k .normal (st 104 [(0, x0), (1, x1), (3, x3), (10, x10), (12, x12), (13, x13), (14, x14), (67, v3)]) h2
 := fun _ _ _ _ _ _ => by kernel_rfl
theorem r48_10 (x0 x1 x3 x10 x12 x13 x14 : AV) : RR O48 48 104 10 false [(0, x0), (1, x1), (3, x3), (10, x10), (12, x12), (13, x13), (14, x14)] fun _ call md k h =>
 bnd (aBinC tab .add 3 x14 (.int .i64 1) true) fun v1 =>
 k .normal (st 104 [(0, x0), (1, x1), (3, x3), (10, x10), (12, x12), (13, x13), (14, v1)]) h
 := fun _ _ _ _ _ _ => by kernel_rfl
theorem r48_11 (x0 x1 x3 x10 x12 x13 x14 x67 : AV) : RR O48 48 104 11 false [(0, x0), (1, x1), (3, x3), (10, x10), (12, x12), (13, x13), (14, x14), (67, x67)] fun _ call md k h =>
 bnd (aBinC tab .add 3 x1 x14 false) fun v1 =>
 bnd2 (call md 38 [x0, v1] h) fun v2 h3 =>
 bnd (aExtract v2 0) fun v4 =>
 bnd (aExtract v2 1) fun v5 =>
 k .normal (st 104 [(0, x0), (1, x1), (3, x3), (10, x10), (12, x12), (13, x13), (14, x14), (15, v4)]) h3
 := fun _ _ _ _ _ _ => by kernel_rfl
theorem r48_12 (x0 x1 x3 x10 x12 x13 x14 x15 : AV) : RR O48 48 104 12 false [(0, x0), (1, x1), (3, x3), (10, x10), (12, x12), (13, x13), (14, x14), (15, x15)] fun _ call md k h =>
 bnd2 (aApp tab 22 22 md x13 x15 h) fun v1 h2 =>
 k .normal (st 104 [(0, x0), (1, x1), (3, x3), (10, x10), (12, x12), (13, v1), (14, x14)]) h2
 := fun _ _ _ _ _ _ => by kernel_rfl
theorem r48_13 (x0 x1 x3 x10 x12 x13 x14 x67 : AV) : RR O48 48 104 13 false [(0, x0), (1, x1), (3, x3), (10, x10), (12, x12), (13, x13), (14, x14), (67, x67)] fun _ call md k h =>
 bnd (aSlice tab 22 x13 (some x12) none none) fun v1 =>
 k .normal (st 104 [(3, x3), (10, x10), (12, x12), (13, x13), (17, v1)]) h
 := fun _ _ _ _ _ _ => by kernel_rfl
theorem r48_14 (x3 x10 x12 x13 x17 : AV) : RR O48 48 104 14 false [(3, x3), (10, x10), (12, x12), (13, x13), (17, x17)] fun _ call md k h =>
 bnd (aSlice tab 22 x13 none (some x12) (some x12)) fun v1 =>
 k .normal (st 104 [(3, x3), (10, x10), (13, v1), (17, x17)]) h
 := fun _ _ _ _ _ _ => by kernel_rfl
theorem r48_15 (x3 x10 x13 x17 : AV) : RR O48 48 104 15 true [(3, x3), (10, x10), (13, x13), (17, x17)] fun _ call md k h =>
 bnd2 (call md 47 [x3, x13] h) fun v1 h2 =>
 bnd (aSlice tab 22 x10 none (some (.int .i64 16)) none) fun v3 =>
 bnd2 (call md 73 [v1, v3] h2) fun v4 h5 =>
 gd true v4 h5 (fun k => k x10 h5) fun v6 h7 =>
 gd true v4 h7 (fun k => bnd (aSlice tab 22 v6 (some (.int .i64 16)) none none) (k · h7)) fun v8 h9 =>
 gd true v4 h9 (fun k => bnd2 (call md 51 [v8] h9) k) fun v10 h11 =>
 bnd (aPick v4 v10 (.bool false)) fun v12 =>
 gd true v12 h11 (fun k => k x17 h11) fun v13 h14 =>
 gd true v12 h14 (fun k => bnd2 (call md 51 [v13] h14) k) fun v15 h16 =>
 bnd (aPick v12 v15 (.bool false)) fun v17 =>
 k .normal (st 104 [(8, x13), (9, v17)]) h16
 := RRd (by kernel_rfl) (by kernel_rfl) (fun _ _ _ _ _ => by kernel_rfl)
def R48 := And.intro @r48_0 <| And.intro @r48_1 <| And.intro @r48_2 <| And.intro @r48_3 <| And.intro @r48_4 <| And.intro @r48_5 <| And.intro @r48_6 <| And.intro @r48_7 <| And.intro @r48_8 <| And.intro @r48_9 <| And.intro @r48_10 <| And.intro @r48_11 <| And.intro @r48_12 <| And.intro @r48_13 <| And.intro @r48_14 <| @r48_15
end Go.Ax

namespace Go.Ax
open Go Go.Proofs
theorem Dsk.low {S : Obs} {h : Heap} {p r : Nat} {d : Dk} (D : Dsk S h p r d) : Dsk (fun i => i < h.length) h p r d := by
  obtain ⟨x, hx, ha⟩ := D.var
  refine ⟨(List.getElem?_eq_some_iff.1 hx).1, fun e => (List.getElem?_eq_some_iff.1 (D.row e)).1, ⟨x, hx, ?_⟩, D.row, D.cells, D.loose, D.few⟩
  rcases ha with a | ⟨kk, hx, a | ⟨r, g, hk, hr, hg⟩⟩
  · exact .inl a
  · exact .inr ⟨kk, hx, .inl a⟩
  · exact .inr ⟨kk, hx, .inr ⟨r, g, hk, (List.getElem?_eq_some_iff.1 hg).1, hg⟩⟩
theorem Dsk.now_length {S : Obs} {h : Heap} {p r : Nat} {d : Dk} (_ : Dsk S h p r d) : d.now.length = d.lasts.length := land_length _ _
theorem Dsk.now_cells {S : Obs} {h : Heap} {p r : Nat} {d : Dk} (D : Dsk S h p r d) : ∀ b ∈ d.now, b.length = 64 := land_cells _ _ D.cells fun w hw => (D.loose w hw).2
def bodyAt (now : List (List UInt8)) (a n : Nat) : List UInt8 := ((now.drop (a + 1)).take n).flatten
theorem bodyAt_succ (now : List (List UInt8)) (a n : Nat) (b : List UInt8) (h : now[a + 1 + n]? = some b) : bodyAt now a (n + 1) = bodyAt now a n ++ b := by
  unfold bodyAt
  rw [List.take_add_one, List.getElem?_drop, h, List.flatten_append]
  simp
theorem bodyAt_length (now : List (List UInt8)) (hc : ∀ b ∈ now, b.length = 64) (a : Nat) : ∀ n, a + 1 + n ≤ now.length → (bodyAt now a n).length = 64 * n := by
  intro n
  induction n with
  | zero => intro _; simp [bodyAt]
  | succ n ih =>
    intro hn
    have hlt : a + 1 + n < now.length := by omega
    rw [bodyAt_succ now a n now[a + 1 + n] (List.getElem?_eq_getElem hlt), List.length_append, ih (by omega), hc _ (List.getElem_mem hlt)]
    omega
theorem one_loop {S U : Obs} {p r : Nat} {d : Dk} (hl : d.loose.length < 2 ^ 30) (dis : ∀ i, S i → ¬ U i) (a nn : Nat) (size : Int) (hs : size < 2 ^ 62) (hnn : sizeOf size = nn) (ha : a + nn ≤ d.lasts.length) (x3 x10 : AV) (N : Nat) (hN : d.loose.length + 5 < N) :
    ∀ (m i n : Nat) (acc : AV) (h : Heap), i + 1 + m = nn → m < n → Up U h → Dsk S h p r d → ApB U h acc (bodyAt d.now a i) →
    ∃ acc' h', (∀ K : Ex → List AV → Heap → Option (AV × Heap), loopK (fun next => runK C0 (exFn C0 E0 (N + 1)) false 48 (N + 1) B48_1 (seqE next K)) n (st 104 [(0, dp p), (1, .int .i64 a), (3, x3), (10, x10), (12, .int .i64 size), (13, acc), (14, .int .i64 ((i + 1 : Nat) : Int))]) h =
      K (.exit 0) (st 104 [(0, dp p), (1, .int .i64 a), (3, x3), (10, x10), (12, .int .i64 size), (13, acc'), (14, .int .i64 nn), (67, .bool false)]) h') ∧
      ApB U h' acc' (bodyAt d.now a (nn - 1)) ∧ Keep U h h' := by
  intro m
  induction m with
  | zero =>
    intro i n acc h hi hn up D hacc
    obtain ⟨n, rfl⟩ : ∃ j, n = j + 1 := ⟨n - 1, by omega⟩
    obtain rfl : nn = i + 1 := by omega
    refine ⟨acc, h, fun K => ?_, by simpa using hacc, Keep.refl _ _⟩
    rw [loopK_succ]
    generalize loopK (_ : (List AV → Heap → Option (AV × Heap)) → List AV → Heap → Option (AV × Heap)) n = Lp
    have e : decide (((i + 1 : Nat) : Int) < sizeOf size) = false := decide_eq_false (by omega)
    simp -implicitDefEqProofs only [B48_1, ↓RK, RK, ↓RB, RB, decide_true, decide_false, STs, Nat.reduceBEq, ↓reduceIte, Nat.reduceLT, ↓R48, R48, size_ok size hs, bin_lss, e]
  | succ m ih =>
    intro i n acc h hi hn up D hacc
    obtain ⟨n, rfl⟩ : ∃ j, n = j + 1 := ⟨n - 1, by omega⟩
    have hf := D.few
    have e : decide (((i + 1 : Nat) : Int) < sizeOf size) = true := decide_eq_true (by omega)
    have wa : IntKind.i64.wrap ((a : Int) + ((i + 1 : Nat) : Int)) = ((a + 1 + i : Nat) : Int) := by rw [wrap_i64] <;> omega
    have wr : IntKind.i64.wrap (((i + 1 : Nat) : Int) + 1) = ((i + 1 + 1 : Nat) : Int) := by rw [wrap_i64] <;> omega
    obtain ⟨y, h1, r1, r2, r3⟩ := read_ok D hl ((a + 1 + i : Nat) : Int) N hN
    have hlt : a + 1 + i < d.now.length := by rw [D.now_length]; omega
    have hrd : d.read ((a + 1 + i : Nat) : Int) = (d.now[a + 1 + i], 0) := by
      unfold Dk.read
      rw [if_pos ⟨by omega, by omega⟩, Int.toNat_natCast, List.getElem?_eq_getElem hlt]
      rfl
    rw [hrd] at r1 r2
    have hlen := D.now_cells _ (List.getElem_mem hlt)
    have hbs := bodyAt_succ d.now a i _ (List.getElem?_eq_getElem hlt)
    have hbl := bodyAt_length d.now D.now_cells a i (by omega)
    generalize d.now[a + 1 + i] = c at *
    have up1 := up.keep r3
    obtain ⟨acc', h2, ap, a2, k2, -⟩ := ApB.append (l := bodyAt d.now a i) (hacc.fresh r3) up1 (new := c) (by intro e; subst e; simp at hlen) (by omega)
    have by2 : By U h1 y c := .inl r2.bs
    have k12 := (r3.up up).trans k2
    rw [← hbs] at a2
    obtain ⟨acc'', h3, g1, g2, g3⟩ := ih (i + 1) n acc' h2 (by omega) (by omega) (up1.keep k2) (D.keep k12 fun j _ hj => dis j hj) a2
    refine ⟨acc'', h3, fun K => ?_, g2, k12.trans g3⟩
    rw [loopK_succ, ← g1 K]
    generalize loopK (_ : (List AV → Heap → Option (AV × Heap)) → List AV → Heap → Option (AV × Heap)) n = Lp
    simp -implicitDefEqProofs only [B48_1, ↓RK, RK, ↓RB, RB, decide_true, decide_false, STs, Nat.reduceBEq, ↓reduceIte, Nat.reduceLT, ↓R48, R48, size_ok size hs, bin_lss, e, bin_add, wa, wr, r1, ext0, ext1, app22s by2.src, ap]
def oneOf (now : List (List UInt8)) (at' e gen : Int) : Option (List UInt8) :=
  if 0 ≤ at' ∧ at' < now.length then
    let c := (now[at'.toNat]?).getD []
    if e ≤ at' ∨ get4 c ≠ BitVec.ofInt 32 gen ∨ crc (c.take 12) ≠ get4 (c.drop 12) then none
    else
      let size := (get4 (c.drop 4)).toNat
      if 8192 < size ∨ min e now.length - at' < sizeOf size then none
      else
        let all := bodyAt now at'.toNat ((sizeOf size).toNat - 1)
        let b := all.take size
        if head16 (BitVec.ofInt 32 gen) b = c.take 16 ∧ (c.drop 16).all (· == 0) = true ∧ (all.drop size).all (· == 0) = true then some b else none
  else none
theorem Bs.from {x : AV} {l : List UInt8} (hx : Bs x l) (n : Nat) (hn : n ≤ l.length) : ∃ y, aSlice tab 22 x (some (.int .i64 n)) none none = some y ∧ Bs y (l.drop n) := by
  rcases hx with ⟨rfl, rfl⟩ | ⟨k, rfl⟩
  · obtain rfl : n = 0 := by simpa using hn
    exact ⟨.nils, by simp [aSlice, aBounds, aBound], .inl ⟨rfl, by simp⟩⟩
  · refine ⟨.vsl 5 ((l.drop n).map U8) k, ?_, .inr ⟨_, rfl⟩⟩
    have e : (l.map U8).take l.length = l.map U8 := List.take_of_length_le (by simp)
    simp [aSlice, aBounds, aBound, hn, e, cutTok]
theorem Bs.cut {x : AV} {l : List UInt8} (hx : Bs x l) (n : Nat) (hn : n ≤ l.length) (S : Obs) (h : Heap) : ∃ y, aSlice tab 22 x none (some (.int .i64 n)) (some (.int .i64 n)) = some y ∧ ApB S h y (l.take n) := by
  rcases hx with ⟨rfl, rfl⟩ | ⟨k, rfl⟩
  · obtain rfl : n = 0 := by simpa using hn
    exact ⟨.nils, by simp [aSlice, aBounds, aBound], .inl ⟨rfl, by simp⟩⟩
  · refine ⟨_, by simp [aSlice, aBounds, aBound, hn, cutTok]; rfl, .inr ⟨_, by rw [List.map_take], .inl rfl⟩⟩
theorem oneOf_out {now : List (List UInt8)} {at' e gen : Int} (h : ¬ (0 ≤ at' ∧ at' < now.length)) : oneOf now at' e gen = none := if_neg h
theorem oneOf_head {now : List (List UInt8)} {a : Nat} {e gen : Int} {c : List UInt8} (hc : now[a]? = some c) (h : e ≤ a ∨ get4 c ≠ BitVec.ofInt 32 gen ∨ crc (c.take 12) ≠ get4 (c.drop 12)) : oneOf now a e gen = none := by
  have hlt := (List.getElem?_eq_some_iff.1 hc).1
  unfold oneOf
  rw [if_pos ⟨by omega, by omega⟩]
  simp only [Int.toNat_natCast, hc, Option.getD_some]
  rw [if_pos h]
theorem oneOf_size {now : List (List UInt8)} {a : Nat} {e gen : Int} {c : List UInt8} (hc : now[a]? = some c) (h : ¬ (e ≤ a ∨ get4 c ≠ BitVec.ofInt 32 gen ∨ crc (c.take 12) ≠ get4 (c.drop 12)))
    (h2 : 8192 < (get4 (c.drop 4)).toNat ∨ min e now.length - a < sizeOf (get4 (c.drop 4)).toNat) : oneOf now a e gen = none := by
  have hlt := (List.getElem?_eq_some_iff.1 hc).1
  unfold oneOf
  rw [if_pos ⟨by omega, by omega⟩]
  simp only [Int.toNat_natCast, hc, Option.getD_some]
  rw [if_neg h, if_pos h2]
theorem oneOf_go {now : List (List UInt8)} {a nn : Nat} {e gen : Int} {c : List UInt8} (hc : now[a]? = some c) (h : ¬ (e ≤ a ∨ get4 c ≠ BitVec.ofInt 32 gen ∨ crc (c.take 12) ≠ get4 (c.drop 12)))
    (h2 : ¬ (8192 < (get4 (c.drop 4)).toNat ∨ min e now.length - a < sizeOf (get4 (c.drop 4)).toNat)) (hn : sizeOf (get4 (c.drop 4)).toNat = nn) :
    oneOf now a e gen = if head16 (BitVec.ofInt 32 gen) ((bodyAt now a (nn - 1)).take (get4 (c.drop 4)).toNat) = c.take 16 ∧ (c.drop 16).all (· == 0) = true ∧ ((bodyAt now a (nn - 1)).drop (get4 (c.drop 4)).toNat).all (· == 0) = true
      then some ((bodyAt now a (nn - 1)).take (get4 (c.drop 4)).toNat) else none := by
  have hlt := (List.getElem?_eq_some_iff.1 hc).1
  unfold oneOf
  rw [if_pos ⟨by omega, by omega⟩]
  simp only [Int.toNat_natCast, hc, Option.getD_some]
  rw [if_neg h, if_neg h2, hn, Int.toNat_natCast]
theorem on0 (p : Nat) (at' e gen : Int) : ([dp p, .int .i64 at', .int .i64 e, .int .i64 gen] ++ List.replicate (104 - [dp p, .int .i64 at', .int .i64 e, .int .i64 gen].length) AV.undef) = st 104 [(0, dp p), (1, .int .i64 at'), (2, .int .i64 e), (3, .int .i64 gen)] := rfl
theorem neq27 (a : Int) : aBinC tab .neq 27 (.int .i64 a) (.int .i64 0) true = some (.bool (decide (a ≠ 0))) := bin_neq _ _ _ _ _ _
theorem one_ok {S : Obs} {p r : Nat} {h : Heap} {d : Dk} (D : Dsk S h p r d) (hl : d.loose.length < 2 ^ 30) (at' e gen : Int) (k : Nat) (hk : d.loose.length + 9000 < k) :
    ∃ x h', exFn C0 E0 (k + 1) false 48 [dp p, .int .i64 at', .int .i64 e, .int .i64 gen] h = some (.tuple [x, .bool (oneOf d.now at' e gen).isSome], h') ∧
      (∀ b, oneOf d.now at' e gen = some b → ApB (From h.length) h' x b) ∧ Keep (From h.length) h h' := by
  obtain ⟨k, rfl⟩ : ∃ j, k = j + 9 := ⟨k - 9, by omega⟩
  have up := Up.fresh h
  have hnl := D.now_length
  have hfew := D.few
  obtain ⟨y, h1, r1, r2, r3⟩ := read_ok D hl at' (k + 8) (by omega)
  by_cases h0 : d.has at'
  case neg =>
    have hrd : d.read at' = ([], 1) := if_neg h0
    rw [hrd] at r1
    have ho : oneOf d.now at' e gen = none := oneOf_out (by rw [hnl]; exact h0)
    rw [ho]
    refine ⟨.nils, h1, exFn_of e48 ?_, (fun b hb => by cases hb), r3⟩
    have c1 : decide ((1 : Int) ≠ 0) = true := by decide
    rw [fnK, on0, s48]
    simp -implicitDefEqProofs only [↓RK, RK, ↓RB, RB, decide_true, decide_false, STs, Nat.reduceBEq, ↓reduceIte, Nat.reduceLT, ↓R48, R48, r1, ext0, ext1, neq27, c1, Option.isSome_none]
  obtain ⟨a, rfl⟩ : ∃ a : Nat, at' = a := ⟨at'.toNat, by have := h0.1; omega⟩
  have hlt : a < d.now.length := by have := h0.2; omega
  have hrd : d.read (a : Int) = (d.now[a], 0) := by
    unfold Dk.read
    rw [if_pos h0, Int.toNat_natCast, List.getElem?_eq_getElem hlt]
    rfl
  have hlen := D.now_cells _ (List.getElem_mem hlt)
  have hc : d.now[a]? = some d.now[a] := List.getElem?_eq_getElem hlt
  rw [hrd] at r1 r2
  generalize d.now[a] = c at *
  have c0 : decide ((0 : Int) ≠ 0) = false := by decide
  have by1 : Bs y c := r2.bs
  by_cases q1 : e ≤ (a : Int)
  · have e1 : decide (e ≤ (a : Int)) = true := decide_eq_true q1
    rw [oneOf_head hc (.inl q1)]
    refine ⟨.nils, h1, exFn_of e48 ?_, (fun b hb => by cases hb), r3⟩
    rw [fnK, on0, s48]
    simp -implicitDefEqProofs only [↓RK, RK, ↓RB, RB, decide_true, decide_false, STs, Nat.reduceBEq, ↓reduceIte, Nat.reduceLT, ↓R48, R48, r1, ext0, ext1, neq27, c0, bin_geq, e1, Option.isSome_none]
  have e1 : decide (e ≤ (a : Int)) = false := decide_eq_false q1
  have g1 := get_ok by1 (by omega) (by omega) false h1 (k + 9) (by omega)
  have cv := conv_64_32 h1 gen
  by_cases q2 : get4 c = BitVec.ofInt 32 gen
  case neg =>
    have e2 : decide (get4 c ≠ BitVec.ofInt 32 gen) = true := decide_eq_true q2
    rw [oneOf_head hc (.inr (.inl q2))]
    refine ⟨.nils, h1, exFn_of e48 ?_, (fun b hb => by cases hb), r3⟩
    rw [fnK, on0, s48]
    simp -implicitDefEqProofs only [↓RK, RK, ↓RB, RB, decide_true, decide_false, STs, Nat.reduceBEq, ↓reduceIte, Nat.reduceLT, ↓R48, R48, r1, ext0, ext1, neq27, c0, bin_geq, e1, g1, cv, u32_neq, e2, Option.isSome_none]
  have e2 : decide (get4 c ≠ BitVec.ofInt 32 gen) = false := decide_eq_false (fun h => h q2)
  obtain ⟨z1, sz1, bz1⟩ := by1.to 12 (by omega)
  obtain ⟨z2, sz2, bz2⟩ := by1.from 12 (by omega)
  simp only [Int.cast_ofNat_Int] at sz1 sz2
  have g2 := sum_of bz1 (by simp; omega) false h1 (k + 9) (by simp; omega)
  have g3 := get_ok bz2 (by simp; omega) (by simp; omega) false h1 (k + 9) (by omega)
  by_cases q3 : crc (c.take 12) = get4 (c.drop 12)
  case neg =>
    have e3 : decide (crc (c.take 12) ≠ get4 (c.drop 12)) = true := decide_eq_true q3
    rw [oneOf_head hc (.inr (.inr q3))]
    refine ⟨.nils, h1, exFn_of e48 ?_, (fun b hb => by cases hb), r3⟩
    rw [fnK, on0, s48]
    simp -implicitDefEqProofs only [↓RK, RK, ↓RB, RB, decide_true, decide_false, STs, Nat.reduceBEq, ↓reduceIte, Nat.reduceLT, ↓R48, R48, r1, ext0, ext1, neq27, c0, bin_geq, e1, g1, cv, u32_neq, e2, sz1, sz2, g2, g3, e3, Option.isSome_none]
  have e3 : decide (crc (c.take 12) ≠ get4 (c.drop 12)) = false := decide_eq_false (fun h => h q3)
  have hh : ¬ (e ≤ a ∨ get4 c ≠ BitVec.ofInt 32 gen ∨ crc (c.take 12) ≠ get4 (c.drop 12)) := fun h => h.elim q1 fun h => h.elim (fun h => h q2) fun h => h q3
  obtain ⟨z3, sz3, bz3⟩ := by1.from 4 (by omega)
  simp only [Int.cast_ofNat_Int] at sz3
  have g4 := get_ok bz3 (by simp; omega) (by simp; omega) false h1 (k + 9) (by omega)
  have cv2 := conv_32_64 h1 (get4 (c.drop 4))
  have hgo := fun nn h2 hn => oneOf_go (nn := nn) hc hh h2 hn
  have hsize := fun h2 => oneOf_size hc hh h2
  have hsl : (get4 (c.drop 4)).toNat < 2 ^ 32 := (get4 (c.drop 4)).isLt
  generalize hsz : (get4 (c.drop 4)).toNat = size at *
  have D1 := D.fresh r3
  by_cases q4 : 8192 < size
  · have e4 : decide ((8192 : Int) < (size : Nat)) = true := decide_eq_true (by omega)
    rw [hsize (.inl q4)]
    refine ⟨.nils, h1, exFn_of e48 ?_, (fun b hb => by cases hb), r3⟩
    rw [fnK, on0, s48]
    simp -implicitDefEqProofs only [↓RK, RK, ↓RB, RB, decide_true, decide_false, STs, Nat.reduceBEq, ↓reduceIte, Nat.reduceLT, ↓R48, R48, r1, ext0, ext1, neq27, c0, bin_geq, e1, g1, cv, u32_neq, e2, sz1, sz2, g2, g3, e3, sz3, g4, cv2, bin_gtr, e4, Option.isSome_none]
  have e4 : decide ((8192 : Int) < (size : Nat)) = false := decide_eq_false (by omega)
  have sk := size_ok (size : Int) (by omega) false h1 (k + 8)
  have lk := len_ok D1 false (k + 8)
  have mn : (if ((d.lasts.length : Nat) : Int) < e then ((d.lasts.length : Nat) : Int) else e) = min e d.now.length := by rw [hnl]; split <;> omega
  have ws : IntKind.i64.wrap (min e d.now.length - (a : Int)) = min e d.now.length - a := by rw [wrap_i64] <;> omega
  by_cases q5 : min e d.now.length - (a : Int) < sizeOf size
  · have e5 : decide (min e d.now.length - (a : Int) < sizeOf size) = true := decide_eq_true q5
    rw [hsize (.inr q5)]
    refine ⟨.nils, h1, exFn_of e48 ?_, (fun b hb => by cases hb), r3⟩
    rw [fnK, on0, s48]
    simp -implicitDefEqProofs only [↓RK, RK, ↓RB, RB, decide_true, decide_false, STs, Nat.reduceBEq, ↓reduceIte, Nat.reduceLT, ↓R48, R48, r1, ext0, ext1, neq27, c0, bin_geq, e1, g1, cv, u32_neq, e2, sz1, sz2, g2, g3, e3, sz3, g4, cv2, bin_gtr, e4, sk, lk, min2_i64, mn, bin_sub, ws, e5, Option.isSome_none]
  have e5 : decide (min e d.now.length - (a : Int) < sizeOf size) = false := decide_eq_false q5
  obtain ⟨nn, hnn⟩ : ∃ nn : Nat, sizeOf size = nn := ⟨(sizeOf size).toNat, by unfold sizeOf; omega⟩
  have hnn1 : (nn : Int) = 1 + ((size : Int) + 63) / 64 := by rw [← hnn]; unfold sizeOf; omega
  rw [hgo nn (fun h => h.elim q4 q5) hnn]
  have han : a + nn ≤ d.lasts.length := by omega
  have a0 : ApB (From h.length) h1 .nils (bodyAt d.now a 0) := .inl ⟨rfl, by simp [bodyAt]⟩
  obtain ⟨acc, h2, f1, f2, f3⟩ := one_loop (U := From h.length) hl (S := fun i => i < h.length) (fun i hi hj => absurd hj (Nat.not_le.2 hi)) a nn size (by omega) hnn han (.int .i64 gen) y (k + 8) (by omega)
    (nn - 1) 0 (k + 9) .nils h1 (by omega) (by omega) (up.keep r3) (D.low.fresh r3) a0
  have hbl := bodyAt_length d.now D.now_cells a (nn - 1) (by omega)
  generalize bodyAt d.now a (nn - 1) = all at *
  rw [show ((0 + 1 : Nat) : Int) = 1 from rfl] at f1
  obtain ⟨w1, sw1, bw1⟩ := f2.bs.from size (by omega)
  obtain ⟨w2, sw2, bw2⟩ := f2.bs.cut size (by omega) (From h.length) h2
  have hbt : (all.take size).length = size := by rw [List.length_take]; omega
  obtain ⟨w3, h3, p1, p2, p3⟩ := first_ok bw2.bs (by omega) gen h2 (k + 8) (by omega)
  obtain ⟨w4, sw4, bw4⟩ := by1.to 16 (by omega)
  obtain ⟨w5, sw5, bw5⟩ := by1.from 16 (by omega)
  simp only [Int.cast_ofNat_Int] at sw4 sw5
  have t1 := equal_ok p2.bs bw4 false h3 (k + 8)
  have t2 := zero_ok bw5 false h3 (k + 6)
  have t3 := zero_ok bw1 false h3 (k + 6)
  have run : ∀ ok : Bool, (head16 (BitVec.ofInt 32 gen) (all.take size) = c.take 16 ∧ (c.drop 16).all (· == 0) = true ∧ (all.drop size).all (· == 0) = true ↔ ok = true) →
      exFn C0 E0 (k + 9 + 1) false 48 [dp p, .int .i64 a, .int .i64 e, .int .i64 gen] h = some (.tuple [w2, .bool ok], h3) := by
    intro ok hok
    refine exFn_of e48 ?_
    rw [fnK, on0, s48]
    simp -implicitDefEqProofs only [↓RK, RK, ↓RB, RB, decide_true, decide_false, STs, Nat.reduceBEq, ↓reduceIte, Nat.reduceLT, ↓R48, R48, r1, ext0, ext1, neq27, c0, bin_geq, e1, g1, cv, u32_neq, e2, sz1, sz2, g2, g3, e3, sz3, g4, cv2, bin_gtr, e4, sk, lk, min2_i64, mn, bin_sub, ws, e5, f1, sw1, sw2, p1, sw4, t1]
    by_cases m1 : head16 (BitVec.ofInt 32 gen) (all.take size) = c.take 16
    · rw [show decide (head16 (BitVec.ofInt 32 gen) (all.take size) = c.take 16) = true from decide_eq_true m1]
      cases m2 : (c.drop 16).all (· == 0)
      · obtain rfl : ok = false := by simpa [m2] using hok
        rw [m2] at t2
        simp -implicitDefEqProofs only [↓RK, RK, ↓RB, RB, decide_true, decide_false, STs, Nat.reduceBEq, ↓reduceIte, Nat.reduceLT, ↓R48, R48, sw5, t2]
      · rw [m2] at t2
        cases m3 : (all.drop size).all (· == 0)
        · obtain rfl : ok = false := by simpa [m3] using hok
          rw [m3] at t3
          simp -implicitDefEqProofs only [↓RK, RK, ↓RB, RB, decide_true, decide_false, STs, Nat.reduceBEq, ↓reduceIte, Nat.reduceLT, ↓R48, R48, sw5, t2, t3]
        · obtain rfl : ok = true := by simpa [m1, m2, m3] using hok
          rw [m3] at t3
          simp -implicitDefEqProofs only [↓RK, RK, ↓RB, RB, decide_true, decide_false, STs, Nat.reduceBEq, ↓reduceIte, Nat.reduceLT, ↓R48, R48, sw5, t2, t3]
    · obtain rfl : ok = false := by simpa [m1] using hok
      rw [show decide (head16 (BitVec.ofInt 32 gen) (all.take size) = c.take 16) = false from decide_eq_false m1]
      simp -implicitDefEqProofs only [↓RK, RK, ↓RB, RB, decide_true, decide_false, STs, Nat.reduceBEq, ↓reduceIte, Nat.reduceLT, ↓R48, R48]
  have kk := ((r3.trans f3).fresh p3 up)
  split
  · rename_i hcond
    refine ⟨w2, h3, run true (by simpa using hcond), fun b hb => ?_, kk⟩
    cases hb
    exact bw2.fresh p3
  · rename_i hcond
    exact ⟨w2, h3, run false (by simpa using hcond), (fun b hb => by cases hb), kk⟩
end Go.Ax

set_option linter.unusedVariables false
namespace Go.Ax
open Go Go.Proofs
noncomputable def O14 (i : Nat) : Array Oper := opsOf i (bodyOf Try.f14)
noncomputable def B14_1 : Code := (.seq (.seq (.region 7 (O14 7) false) (.cond (Go.Operand.tmp 52) .skip (.exit 0))) (.seq (.block 1 (.seq (.region 9 (O14 9) false) (.seq (.region 10 (O14 10) false) (.seq (.region 11 (O14 11) false) (.cond (Go.Operand.tmp 72) (.seq (.region 12 (O14 12) false) .ret) .skip))))) (.region 8 (O14 8) false)))
theorem s14 : bodyOf Try.f14 = (.seq (.region 0 (O14 0) false) (.seq (.seq (.region 1 (O14 1) false) (.cond (Go.Operand.tmp 33) (.seq (.region 2 (O14 2) false) .ret) .skip)) (.seq (.region 3 (O14 3) false) (.seq (.seq (.region 4 (O14 4) false) (.cond (Go.Operand.tmp 49) (.seq (.region 5 (O14 5) false) .ret) .skip)) (.seq (.seq (.region 6 (O14 6) false) (.block 0 (.loop B14_1))) (.seq (.seq (.region 13 (O14 13) false) (.seq (.region 14 (O14 14) false) (.cond (Go.Operand.tmp 77) (.seq (.region 15 (O14 15) false) .ret) .skip))) (.seq (.seq (.region 16 (O14 16) false) (.seq (.region 17 (O14 17) false) (.cond (Go.Operand.tmp 86) (.seq (.region 18 (O14 18) false) .ret) .skip))) (.seq (.seq (.region 19 (O14 19) false) (.seq (.region 20 (O14 20) false) (.cond (Go.Operand.tmp 91) (.seq (.region 21 (O14 21) false) .ret) .skip))) (.seq (.region 22 (O14 22) false) .ret))))))))) := by kernel_rfl
theorem e14 : E0 14 = some ⟨96, [10, 11], bodyOf Try.f14⟩ := by kernel_rfl
theorem r14_0 (x0 x1 x2 x3 x4 : AV) : RR O14 14 96 0 false [(0, x0), (1, x1), (2, x2), (3, x3), (4, x4)] fun _ call md k h =>
 k .normal (st 96 [(0, x0), (1, x1), (2, x2), (3, x3), (4, x4)]) h
 := fun _ _ _ _ _ _ => by kernel_rfl
theorem r14_1 (x0 x1 x2 x3 x4 : AV) : RR O14 14 96 1 false [(0, x0), (1, x1), (2, x2), (3, x3), (4, x4)] fun _ call md k h =>
 bnd (aLen tab 22 x4) fun v1 =>
 bnd (aBinC tab .gtr 3 v1 (.int .i64 8192) true) fun v2 =>
 gd false v2 h (fun k => k x3 h) fun v3 h4 =>
 gd false v2 h4 (fun k => bnd (aBinC tab .lss 3 v3 (.int .i64 0) true) (k · h4)) fun v5 h6 =>
 bnd (aPick v2 (.bool true) v5) fun v7 =>
 gd false v7 h6 (fun k => k x3 h6) fun v8 h9 =>
 gd false v7 h9 (fun k => bnd (aBinC tab .gtr 3 v8 (.int .i64 2147483647) true) (k · h9)) fun v10 h11 =>
 bnd (aPick v7 (.bool true) v10) fun v12 =>
 gd false v12 h11 (fun k => k x1 h11) fun v13 h14 =>
 gd false v12 h14 (fun k => bnd (aBinC tab .lss 3 v13 (.int .i64 0) true) (k · h14)) fun v15 h16 =>
 bnd (aPick v12 (.bool true) v15) fun v17 =>
 k .normal (st 96 [(0, x0), (1, x1), (2, x2), (3, x3), (4, x4), (33, v17)]) h16
 := fun _ _ _ _ _ _ => by kernel_rfl
theorem r14_2 (x0 x1 x2 x3 x4 x33 : AV) : RR O14 14 96 2 false [(0, x0), (1, x1), (2, x2), (3, x3), (4, x4), (33, x33)] fun _ call md k h =>
 k .normal (st 96 [(10, (.int .i64 0)), (11, (.int .i64 1))]) h
 := fun _ _ _ _ _ _ => by kernel_rfl
theorem r14_3 (x0 x1 x2 x3 x4 x33 : AV) : RR O14 14 96 3 false [(0, x0), (1, x1), (2, x2), (3, x3), (4, x4), (33, x33)] fun _ call md k h =>
 bnd (aLen tab 22 x4) fun v1 =>
 bnd2 (call md 45 [v1] h) fun v2 h3 =>
 k .normal (st 96 [(0, x0), (1, x1), (2, x2), (3, x3), (4, x4), (12, v2)]) h3
 := fun _ _ _ _ _ _ => by kernel_rfl
theorem r14_4 (x0 x1 x2 x3 x4 x12 : AV) : RR O14 14 96 4 false [(0, x0), (1, x1), (2, x2), (3, x3), (4, x4), (12, x12)] fun _ call md k h =>
 bnd (aBinC tab .lss 3 x2 x1 false) fun v1 =>
 gd false v1 h (fun k => k x12 h) fun v2 h3 =>
 gd false v1 h3 (fun k => k x2 h3) fun v4 h5 =>
 gd false v1 h5 (fun k => k x0 h5) fun v6 h7 =>
 gd false v1 h7 (fun k => bnd2 (call md 46 [v6] h7) k) fun v8 h9 =>
 gd false v1 h9 (fun k => bnd (aMin [v4, v8]) (k · h9)) fun v10 h11 =>
 gd false v1 h11 (fun k => k x1 h11) fun v12 h13 =>
 gd false v1 h13 (fun k => bnd (aBinC tab .sub 3 v10 v12 false) (k · h13)) fun v14 h15 =>
 gd false v1 h15 (fun k => bnd (aBinC tab .gtr 3 v2 v14 false) (k · h15)) fun v16 h17 =>
 bnd (aPick v1 (.bool true) v16) fun v18 =>
 k .normal (st 96 [(0, x0), (1, x1), (3, x3), (4, x4), (12, x12), (49, v18)]) h17
 := fun _ _ _ _ _ _ => by kernel_rfl
theorem r14_5 (x0 x1 x3 x4 x12 x49 : AV) : RR O14 14 96 5 false [(0, x0), (1, x1), (3, x3), (4, x4), (12, x12), (49, x49)] fun _ call md k h =>
 k .normal (st 96 [(10, (.int .i64 0)), (11, (.int .i64 3))]) h
 := fun _ _ _ _ _ _ => by kernel_rfl
theorem r14_6 (x0 x1 x3 x4 x12 x49 : AV) : RR O14 14 96 6 false [(0, x0), (1, x1), (3, x3), (4, x4), (12, x12), (49, x49)] fun _ call md k h =>
 k .normal (st 96 [(0, x0), (1, x1), (3, x3), (4, x4), (12, x12), (13, (.int .i64 1))]) h
 := fun _ _ _ _ _ _ => by kernel_rfl
theorem r14_7 (x0 x1 x3 x4 x12 x13 : AV) : RR O14 14 96 7 false [(0, x0), (1, x1), (3, x3), (4, x4), (12, x12), (13, x13)] fun _ call md k h =>
 bnd (aBinC tab .lss 3 x13 x12 false) fun v1 =>
 k .normal (st 96 [(0, x0), (1, x1), (3, x3), (4, x4), (12, x12), (13, x13), (52, v1)]) h
 := fun _ _ _ _ _ _ => by kernel_rfl
theorem r14_8 (x0 x1 x3 x4 x12 x13 x15 x72 : AV) : RR O14 14 96 8 false [(0, x0), (1, x1), (3, x3), (4, x4), (12, x12), (13, x13), (15, x15), (72, x72)] fun _ call md k h =>
 bnd (aBinC tab .add 3 x13 (.int .i64 1) true) fun v1 =>
 k .normal (st 96 [(0, x0), (1, x1), (3, x3), (4, x4), (12, x12), (13, v1)]) h
 := fun _ _ _ _ _ _ => by kernel_rfl
theorem r14_9 (x0 x1 x3 x4 x12 x13 x52 : AV) : RR O14 14 96 9 false [(0, x0), (1, x1), (3, x3), (4, x4), (12, x12), (13, x13), (52, x52)] fun _ call md k h =>
 bnd (aBinC tab .sub 3 x13 (.int .i64 1) true) fun v1 =>
 bnd (aBinC tab .mul 3 v1 (.int .i64 64) true) fun v2 =>
 bnd (aBinC tab .mul 3 x13 (.int .i64 64) true) fun v3 =>
 bnd (aLen tab 22 x4) fun v4 =>
 bnd (aMin [v3, v4]) fun v5 =>
 bnd (aSlice tab 22 x4 (some v2) (some v5) none) fun v6 =>
 k .normal (st 96 [(0, x0), (1, x1), (3, x3), (4, x4), (12, x12), (13, x13), (14, v6)]) h
 := fun _ _ _ _ _ _ => by kernel_rfl
theorem r14_10 (x0 x1 x3 x4 x12 x13 x14 : AV) : RR O14 14 96 10 false [(0, x0), (1, x1), (3, x3), (4, x4), (12, x12), (13, x13), (14, x14)] fun _ call md k h =>
 bnd (aBinC tab .add 3 x1 x13 false) fun v1 =>
 bnd2 (call md 17 [x0, v1, x14] h) fun v2 h3 =>
 k .normal (st 96 [(0, x0), (1, x1), (3, x3), (4, x4), (12, x12), (13, x13), (15, v2)]) h3
 := fun _ _ _ _ _ _ => by kernel_rfl
theorem r14_11 (x0 x1 x3 x4 x12 x13 x15 : AV) : RR O14 14 96 11 false [(0, x0), (1, x1), (3, x3), (4, x4), (12, x12), (13, x13), (15, x15)] fun _ call md k h =>
 bnd (aBinC tab .neq 27 x15 (.int .i64 0) true) fun v1 =>
 k .normal (st 96 [(0, x0), (1, x1), (3, x3), (4, x4), (12, x12), (13, x13), (15, x15), (72, v1)]) h
 := fun _ _ _ _ _ _ => by kernel_rfl
theorem r14_12 (x0 x1 x3 x4 x12 x13 x15 x72 : AV) : RR O14 14 96 12 false [(0, x0), (1, x1), (3, x3), (4, x4), (12, x12), (13, x13), (15, x15), (72, x72)] fun _ call md k h =>
 k .normal (st 96 [(10, (.int .i64 0)), (11, x15)]) h
 := fun _ _ _ _ _ _ => by kernel_rfl
theorem r14_13 (x0 x1 x3 x4 x12 x13 x52 : AV) : RR O14 14 96 13 false [(0, x0), (1, x1), (3, x3), (4, x4), (12, x12), (13, x13), (52, x52)] fun _ call md k h =>
 bnd2 (call md 18 [x0] h) fun v1 h2 =>
 k .normal (st 96 [(0, x0), (1, x1), (3, x3), (4, x4), (12, x12), (16, v1)]) h2
 := fun _ _ _ _ _ _ => by kernel_rfl
theorem r14_14 (x0 x1 x3 x4 x12 x16 : AV) : RR O14 14 96 14 false [(0, x0), (1, x1), (3, x3), (4, x4), (12, x12), (16, x16)] fun _ call md k h =>
 bnd (aBinC tab .neq 27 x16 (.int .i64 0) true) fun v1 =>
 k .normal (st 96 [(0, x0), (1, x1), (3, x3), (4, x4), (12, x12), (16, x16), (77, v1)]) h
 := fun _ _ _ _ _ _ => by kernel_rfl
theorem r14_15 (x0 x1 x3 x4 x12 x16 x77 : AV) : RR O14 14 96 15 false [(0, x0), (1, x1), (3, x3), (4, x4), (12, x12), (16, x16), (77, x77)] fun _ call md k h =>
 k .normal (st 96 [(10, (.int .i64 0)), (11, x16)]) h
 := fun _ _ _ _ _ _ => by kernel_rfl
theorem r14_16 (x0 x1 x3 x4 x12 x16 x77 : AV) : RR O14 14 96 16 false [(0, x0), (1, x1), (3, x3), (4, x4), (12, x12), (16, x16), (77, x77)] fun _ call md k h =>
 bnd2 (call md 47 [x3, x4] h) fun v1 h2 =>
 bnd2 (call md 17 [x0, x1, v1] h2) fun v3 h4 =>
 k .normal (st 96 [(0, x0), (1, x1), (12, x12), (17, v3)]) h4
 := fun _ _ _ _ _ _ => by kernel_rfl
theorem r14_17 (x0 x1 x12 x17 : AV) : RR O14 14 96 17 false [(0, x0), (1, x1), (12, x12), (17, x17)] fun _ call md k h =>
 bnd (aBinC tab .neq 27 x17 (.int .i64 0) true) fun v1 =>
 k .normal (st 96 [(0, x0), (1, x1), (12, x12), (17, x17), (86, v1)]) h
 := fun _ _ _ _ _ _ => by kernel_rfl
theorem r14_18 (x0 x1 x12 x17 x86 : AV) : RR O14 14 96 18 false [(0, x0), (1, x1), (12, x12), (17, x17), (86, x86)] fun _ call md k h =>
 k .normal (st 96 [(10, (.int .i64 0)), (11, x17)]) h
 := fun _ _ _ _ _ _ => by kernel_rfl
theorem r14_19 (x0 x1 x12 x17 x86 : AV) : RR O14 14 96 19 false [(0, x0), (1, x1), (12, x12), (17, x17), (86, x86)] fun _ call md k h =>
 bnd2 (call md 18 [x0] h) fun v1 h2 =>
 k .normal (st 96 [(1, x1), (12, x12), (18, v1)]) h2
 := fun _ _ _ _ _ _ => by kernel_rfl
theorem r14_20 (x1 x12 x18 : AV) : RR O14 14 96 20 false [(1, x1), (12, x12), (18, x18)] fun _ call md k h =>
 bnd (aBinC tab .neq 27 x18 (.int .i64 0) true) fun v1 =>
 k .normal (st 96 [(1, x1), (12, x12), (18, x18), (91, v1)]) h
 := fun _ _ _ _ _ _ => by kernel_rfl
theorem r14_21 (x1 x12 x18 x91 : AV) : RR O14 14 96 21 false [(1, x1), (12, x12), (18, x18), (91, x91)] fun _ call md k h =>
 k .normal (st 96 [(10, (.int .i64 0)), (11, x18)]) h
 := fun _ _ _ _ _ _ => by kernel_rfl
theorem r14_22 (x1 x12 x18 x91 : AV) : RR O14 14 96 22 false [(1, x1), (12, x12), (18, x18), (91, x91)] fun _ call md k h =>
 bnd (aBinC tab .add 3 x1 x12 false) fun v1 =>
 k .normal (st 96 [(10, v1), (11, (.int .i64 0))]) h
 := fun _ _ _ _ _ _ => by kernel_rfl
def R14 := And.intro @r14_0 <| And.intro @r14_1 <| And.intro @r14_2 <| And.intro @r14_3 <| And.intro @r14_4 <| And.intro @r14_5 <| And.intro @r14_6 <| And.intro @r14_7 <| And.intro @r14_8 <| And.intro @r14_9 <| And.intro @r14_10 <| And.intro @r14_11 <| And.intro @r14_12 <| And.intro @r14_13 <| And.intro @r14_14 <| And.intro @r14_15 <| And.intro @r14_16 <| And.intro @r14_17 <| And.intro @r14_18 <| And.intro @r14_19 <| And.intro @r14_20 <| And.intro @r14_21 <| @r14_22
end Go.Ax

namespace Go.Ax
open Go Go.Proofs
theorem burn_fuse (d : Dk) : d.burn.fuse ≤ d.fuse := by unfold Dk.burn; simp only; split <;> omega
theorem write_fuse (d : Dk) (a : Int) (b : List UInt8) : (d.write a b).2.fuse ≤ d.fuse := by
  unfold Dk.write
  split
  · exact Int.le_refl _
  · split
    · exact burn_fuse d
    · exact burn_fuse d
theorem write_loose (d : Dk) (a : Int) (b : List UInt8) : (d.write a b).2.loose.length ≤ d.loose.length + 1 := by
  unfold Dk.write
  split
  · simp
  · split
    · simp [Dk.burn]
    · simp [Dk.burn, Dk.add]
theorem write_len (d : Dk) (a : Int) (b : List UInt8) : (d.write a b).2.lasts.length = d.lasts.length := by
  unfold Dk.write
  split
  · rfl
  · split <;> rfl
theorem flush_fuse (d : Dk) : d.flush.2.fuse ≤ d.fuse := by
  unfold Dk.flush
  split
  · exact burn_fuse d
  · exact burn_fuse d
theorem flush_loose (d : Dk) : d.flush.2.loose.length ≤ d.loose.length := by
  unfold Dk.flush
  split
  · exact Nat.le_refl _
  · simp
theorem flush_len (d : Dk) : d.flush.2.lasts.length = d.lasts.length := by
  unfold Dk.flush
  split
  · rfl
  · exact land_length _ _
def chunk (b : List UInt8) (i : Nat) : List UInt8 := (b.drop (64 * (i - 1))).take 64
def layLoop (at' : Int) (b : List UInt8) : Nat → Nat → Dk → Int × Dk
  | 0, _, d => (0, d)
  | m + 1, i, d => if (d.write (at' + i) (chunk b i)).1 = 0 then layLoop at' b m (i + 1) (d.write (at' + i) (chunk b i)).2 else d.write (at' + i) (chunk b i)
theorem layLoop_zero (at' : Int) (b : List UInt8) (i : Nat) (d : Dk) : layLoop at' b 0 i d = (0, d) := rfl
theorem layLoop_go {at' : Int} {b : List UInt8} {m i : Nat} {d : Dk} (h : (d.write (at' + i) (chunk b i)).1 = 0) : layLoop at' b (m + 1) i d = layLoop at' b m (i + 1) (d.write (at' + i) (chunk b i)).2 := if_pos h
theorem layLoop_no {at' : Int} {b : List UInt8} {m i : Nat} {d : Dk} (h : (d.write (at' + i) (chunk b i)).1 ≠ 0) : layLoop at' b (m + 1) i d = d.write (at' + i) (chunk b i) := if_neg h
theorem layLoop_loose (at' : Int) (b : List UInt8) : ∀ m i d, (layLoop at' b m i d).2.loose.length ≤ d.loose.length + m := by
  intro m
  induction m with
  | zero => intro i d; simp [layLoop]
  | succ m ih =>
    intro i d
    have := write_loose d (at' + i) (chunk b i)
    by_cases h : (d.write (at' + i) (chunk b i)).1 = 0
    · rw [layLoop_go h]
      have := ih (i + 1) (d.write (at' + i) (chunk b i)).2
      omega
    · rw [layLoop_no h]; omega
theorem layLoop_fuse (at' : Int) (b : List UInt8) : ∀ m i d, (layLoop at' b m i d).2.fuse ≤ d.fuse := by
  intro m
  induction m with
  | zero => intro i d; simp [layLoop]
  | succ m ih =>
    intro i d
    have := write_fuse d (at' + i) (chunk b i)
    by_cases h : (d.write (at' + i) (chunk b i)).1 = 0
    · rw [layLoop_go h]
      have := ih (i + 1) (d.write (at' + i) (chunk b i)).2
      omega
    · rw [layLoop_no h]; omega
theorem Bs.sub {x : AV} {l : List UInt8} (hx : Bs x l) (lo hi : Nat) (h1 : lo ≤ hi) (h2 : hi ≤ l.length) : ∃ y, aSlice tab 22 x (some (.int .i64 lo)) (some (.int .i64 hi)) none = some y ∧ Bs y ((l.take hi).drop lo) := by
  rcases hx with ⟨rfl, rfl⟩ | ⟨k, rfl⟩
  · obtain rfl : hi = 0 := by simpa using h2
    obtain rfl : lo = 0 := by omega
    exact ⟨.nils, by simp [aSlice, aBounds, aBound], .inl ⟨rfl, by simp⟩⟩
  · refine ⟨.vsl 5 (((l.take hi).drop lo).map U8) (cutTok l.length hi none k), ?_, .inr ⟨_, rfl⟩⟩
    simp [aSlice, aBounds, aBound, h1, h2]
theorem chunk_eq (b : List UInt8) (i : Nat) (hi : 1 ≤ i) : (b.take (min (64 * i) b.length)).drop (64 * (i - 1)) = chunk b i := by
  unfold chunk
  rw [List.drop_take]
  rcases Nat.le_total (64 * i) b.length with h | h
  · rw [Nat.min_eq_left h, show 64 * i - 64 * (i - 1) = 64 by omega]
  · rw [Nat.min_eq_right h, List.take_of_length_le (by simp), List.take_of_length_le (by simp; omega)]
theorem lay_loop {S : Obs} {p r : Nat} {x : AV} {b : List UInt8} (hx : Bs x b) (a nn : Nat) (x3 : AV) (N : Nat) (ha : a + nn ≤ 1024) (hnn : 64 * (nn - 1) < b.length + 64) :
    ∀ (m i n : Nat) (d : Dk) (h : Heap), i + m = nn → 1 ≤ i → m < n → Up S h → Dsk S h p r d → d.loose.length + m < 2 ^ 30 → d.fuse < 2 ^ 63 →
    ∃ h', (∀ K : Ex → List AV → Heap → Option (AV × Heap), loopK (fun next => runK C0 (exFn C0 E0 (N + 3)) false 14 (N + 3) B14_1 (seqE next K)) n (st 96 [(0, dp p), (1, .int .i64 a), (3, x3), (4, x), (12, .int .i64 nn), (13, .int .i64 i)]) h =
      if (layLoop a b m i d).1 = 0 then K (.exit 0) (st 96 [(0, dp p), (1, .int .i64 a), (3, x3), (4, x), (12, .int .i64 nn), (13, .int .i64 nn), (52, .bool false)]) h'
      else K .ret (st 96 [(10, .int .i64 0), (11, .int .i64 (layLoop a b m i d).1)]) h') ∧
      Dsk S h' p r (layLoop a b m i d).2 ∧ Keep S h h' := by
  intro m
  induction m with
  | zero =>
    intro i n d h hi h1 hn up D hl hf
    obtain ⟨n, rfl⟩ : ∃ j, n = j + 1 := ⟨n - 1, by omega⟩
    obtain rfl : i = nn := by omega
    rw [layLoop_zero]
    refine ⟨h, fun K => ?_, D, Keep.refl _ _⟩
    rw [if_pos rfl, loopK_succ]
    generalize loopK (_ : (List AV → Heap → Option (AV × Heap)) → List AV → Heap → Option (AV × Heap)) n = Lp
    have e : decide (((i : Nat) : Int) < (i : Nat)) = false := decide_eq_false (by omega)
    simp -implicitDefEqProofs only [B14_1, ↓RK, RK, ↓RB, RB, decide_true, decide_false, STs, Nat.reduceBEq, ↓reduceIte, Nat.reduceLT, ↓R14, R14, bin_lss, e]
  | succ m ih =>
    intro i n d h hi h1 hn up D hl hf
    obtain ⟨n, rfl⟩ : ∃ j, n = j + 1 := ⟨n - 1, by omega⟩
    have e : decide (((i : Nat) : Int) < (nn : Nat)) = true := decide_eq_true (by omega)
    have w1 : IntKind.i64.wrap ((i : Int) - 1) = ((i - 1 : Nat) : Int) := by rw [wrap_i64] <;> omega
    have w2 : IntKind.i64.wrap (((i - 1 : Nat) : Int) * 64) = ((64 * (i - 1) : Nat) : Int) := by rw [wrap_i64] <;> omega
    have w3 : IntKind.i64.wrap ((i : Int) * 64) = ((64 * i : Nat) : Int) := by rw [wrap_i64] <;> omega
    have w4 : IntKind.i64.wrap ((a : Int) + (i : Int)) = (a : Int) + i := by rw [wrap_i64] <;> omega
    have w5 : IntKind.i64.wrap ((i : Int) + 1) = ((i + 1 : Nat) : Int) := by rw [wrap_i64] <;> omega
    have mn : (if ((b.length : Nat) : Int) < ((64 * i : Nat) : Int) then ((b.length : Nat) : Int) else ((64 * i : Nat) : Int)) = ((min (64 * i) b.length : Nat) : Int) := by split <;> omega
    obtain ⟨y, sy, by'⟩ := hx.sub (64 * (i - 1)) (min (64 * i) b.length) (by omega) (by omega)
    rw [chunk_eq b i h1] at by'
    obtain ⟨h2, q1, D2, k2⟩ := write_ok D up ((a : Int) + i) (U := fun _ => False) (.inl by') (fun _ _ h => h.elim) (by omega) hf N
    have hwl := write_loose d ((a : Int) + i) (chunk b i)
    have hwf := write_fuse d ((a : Int) + i) (chunk b i)
    by_cases hw : (d.write ((a : Int) + i) (chunk b i)).1 = 0
    · obtain ⟨h3, g1, g2, g3⟩ := ih (i + 1) n _ h2 (by omega) (by omega) (by omega) (up.keep k2) D2 (by omega) (by omega)
      rw [layLoop_go hw]
      refine ⟨h3, fun K => ?_, g2, k2.trans g3⟩
      rw [loopK_succ, ← g1 K]
      generalize loopK (_ : (List AV → Heap → Option (AV × Heap)) → List AV → Heap → Option (AV × Heap)) n = Lp
      rw [hw] at q1
      have c0 : decide ((0 : Int) ≠ 0) = false := by decide
      simp -implicitDefEqProofs only [B14_1, ↓RK, RK, ↓RB, RB, decide_true, decide_false, STs, Nat.reduceBEq, ↓reduceIte, Nat.reduceLT, ↓R14, R14, bin_lss, e, bin_sub, w1, bin_mul, w2, w3, hx.len, min2_i64, mn, sy, bin_add, w4, q1, neq27, c0, w5]
    · rw [layLoop_no hw]
      refine ⟨h2, fun K => ?_, D2, k2⟩
      rw [if_neg hw, loopK_succ]
      generalize loopK (_ : (List AV → Heap → Option (AV × Heap)) → List AV → Heap → Option (AV × Heap)) n = Lp
      have c0 : decide ((d.write ((a : Int) + i) (chunk b i)).1 ≠ 0) = true := decide_eq_true hw
      simp -implicitDefEqProofs only [B14_1, ↓RK, RK, ↓RB, RB, decide_true, decide_false, STs, Nat.reduceBEq, ↓reduceIte, Nat.reduceLT, ↓R14, R14, bin_lss, e, bin_sub, w1, bin_mul, w2, w3, hx.len, min2_i64, mn, sy, bin_add, w4, q1, neq27, c0]
def Dk.lay (d : Dk) (at' e gen : Int) (b : List UInt8) : (Int × Int) × Dk :=
  if 8192 < b.length ∨ gen < 0 ∨ 2147483647 < gen ∨ at' < 0 then ((0, 1), d)
  else if e < at' ∨ min e d.lasts.length - at' < sizeOf b.length then ((0, 3), d)
  else
    let l := layLoop at' b ((sizeOf b.length).toNat - 1) 1 d
    if l.1 ≠ 0 then ((0, l.1), l.2)
    else if l.2.flush.1 ≠ 0 then ((0, l.2.flush.1), l.2.flush.2)
    else
      let w := l.2.flush.2.write at' (head16 (BitVec.ofInt 32 gen) b)
      if w.1 ≠ 0 then ((0, w.1), w.2)
      else if w.2.flush.1 ≠ 0 then ((0, w.2.flush.1), w.2.flush.2)
      else ((at' + sizeOf b.length, 0), w.2.flush.2)
theorem lay_arg {d : Dk} {at' e gen : Int} {b : List UInt8} (h : 8192 < b.length ∨ gen < 0 ∨ 2147483647 < gen ∨ at' < 0) : d.lay at' e gen b = ((0, 1), d) := if_pos h
theorem lay_full {d : Dk} {at' e gen : Int} {b : List UInt8} (h : ¬ (8192 < b.length ∨ gen < 0 ∨ 2147483647 < gen ∨ at' < 0)) (h2 : e < at' ∨ min e d.lasts.length - at' < sizeOf b.length) : d.lay at' e gen b = ((0, 3), d) := by
  unfold Dk.lay; rw [if_neg h, if_pos h2]
theorem lay_go {d : Dk} {at' e gen : Int} {b : List UInt8} (h : ¬ (8192 < b.length ∨ gen < 0 ∨ 2147483647 < gen ∨ at' < 0)) (h2 : ¬ (e < at' ∨ min e d.lasts.length - at' < sizeOf b.length)) {l : Int × Dk} (hl : layLoop at' b ((sizeOf b.length).toNat - 1) 1 d = l) :
    d.lay at' e gen b = if l.1 ≠ 0 then ((0, l.1), l.2)
    else if l.2.flush.1 ≠ 0 then ((0, l.2.flush.1), l.2.flush.2)
    else if (l.2.flush.2.write at' (head16 (BitVec.ofInt 32 gen) b)).1 ≠ 0 then ((0, (l.2.flush.2.write at' (head16 (BitVec.ofInt 32 gen) b)).1), (l.2.flush.2.write at' (head16 (BitVec.ofInt 32 gen) b)).2)
    else if (l.2.flush.2.write at' (head16 (BitVec.ofInt 32 gen) b)).2.flush.1 ≠ 0 then ((0, (l.2.flush.2.write at' (head16 (BitVec.ofInt 32 gen) b)).2.flush.1), (l.2.flush.2.write at' (head16 (BitVec.ofInt 32 gen) b)).2.flush.2)
    else ((at' + sizeOf b.length, 0), (l.2.flush.2.write at' (head16 (BitVec.ofInt 32 gen) b)).2.flush.2) := by
  subst hl; unfold Dk.lay; rw [if_neg h, if_neg h2]
theorem ln0 (p : Nat) (at' e gen : Int) (x : AV) : ([dp p, .int .i64 at', .int .i64 e, .int .i64 gen, x] ++ List.replicate (96 - [dp p, .int .i64 at', .int .i64 e, .int .i64 gen, x].length) AV.undef) =
    st 96 [(0, dp p), (1, .int .i64 at'), (2, .int .i64 e), (3, .int .i64 gen), (4, x)] := rfl
theorem lay_ok {S : Obs} {p r : Nat} {h : Heap} {d : Dk} (D : Dsk S h p r d) (up : Up S h) (hl : d.loose.length < 2 ^ 29) (hf : d.fuse < 2 ^ 63) (at' e gen : Int) (hat : at' < 2 ^ 63) {x : AV} {b : List UInt8} (hx : Bs x b)
    (hbl : b.length < 2 ^ 61) (k : Nat) (hk : d.loose.length + 9000 < k) :
    ∃ h', exFn C0 E0 (k + 1) false 14 [dp p, .int .i64 at', .int .i64 e, .int .i64 gen, x] h = some (.tuple [.int .i64 (d.lay at' e gen b).1.1, .int .i64 (d.lay at' e gen b).1.2], h') ∧ Dsk S h' p r (d.lay at' e gen b).2 ∧ Keep S h h' := by
  obtain ⟨k, rfl⟩ : ∃ j, k = j + 9 := ⟨k - 9, by omega⟩
  have hfew := D.few
  by_cases q1 : 8192 < b.length
  · have e1 : decide ((8192 : Int) < (b.length : Nat)) = true := decide_eq_true (by omega)
    rw [lay_arg (.inl q1)]
    refine ⟨h, exFn_of e14 ?_, D, Keep.refl _ _⟩
    rw [fnK, ln0, s14]
    simp -implicitDefEqProofs only [↓RK, RK, ↓RB, RB, decide_true, decide_false, STs, Nat.reduceBEq, ↓reduceIte, Nat.reduceLT, ↓R14, R14, hx.len, bin_gtr, e1]
  have e1 : decide ((8192 : Int) < (b.length : Nat)) = false := decide_eq_false (by omega)
  by_cases q2 : gen < 0
  · have e2 : decide (gen < 0) = true := decide_eq_true q2
    rw [lay_arg (.inr (.inl q2))]
    refine ⟨h, exFn_of e14 ?_, D, Keep.refl _ _⟩
    rw [fnK, ln0, s14]
    simp -implicitDefEqProofs only [↓RK, RK, ↓RB, RB, decide_true, decide_false, STs, Nat.reduceBEq, ↓reduceIte, Nat.reduceLT, ↓R14, R14, hx.len, bin_gtr, e1, bin_lss, e2]
  have e2 : decide (gen < 0) = false := decide_eq_false q2
  by_cases q3 : 2147483647 < gen
  · have e3 : decide (2147483647 < gen) = true := decide_eq_true q3
    rw [lay_arg (.inr (.inr (.inl q3)))]
    refine ⟨h, exFn_of e14 ?_, D, Keep.refl _ _⟩
    rw [fnK, ln0, s14]
    simp -implicitDefEqProofs only [↓RK, RK, ↓RB, RB, decide_true, decide_false, STs, Nat.reduceBEq, ↓reduceIte, Nat.reduceLT, ↓R14, R14, hx.len, bin_gtr, e1, bin_lss, e2, e3]
  have e3 : decide (2147483647 < gen) = false := decide_eq_false q3
  by_cases q4 : at' < 0
  · have e4 : decide (at' < 0) = true := decide_eq_true q4
    rw [lay_arg (.inr (.inr (.inr q4)))]
    refine ⟨h, exFn_of e14 ?_, D, Keep.refl _ _⟩
    rw [fnK, ln0, s14]
    simp -implicitDefEqProofs only [↓RK, RK, ↓RB, RB, decide_true, decide_false, STs, Nat.reduceBEq, ↓reduceIte, Nat.reduceLT, ↓R14, R14, hx.len, bin_gtr, e1, bin_lss, e2, e3, e4]
  have e4 : decide (at' < 0) = false := decide_eq_false q4
  have ha : ¬ (8192 < b.length ∨ gen < 0 ∨ 2147483647 < gen ∨ at' < 0) := fun h => h.elim q1 fun h => h.elim q2 fun h => h.elim q3 q4
  have sk := size_ok (b.length : Int) (by omega) false h (k + 8)
  by_cases q5 : e < at'
  · have e5 : decide (e < at') = true := decide_eq_true q5
    rw [lay_full ha (.inl q5)]
    refine ⟨h, exFn_of e14 ?_, D, Keep.refl _ _⟩
    rw [fnK, ln0, s14]
    simp -implicitDefEqProofs only [↓RK, RK, ↓RB, RB, decide_true, decide_false, STs, Nat.reduceBEq, ↓reduceIte, Nat.reduceLT, ↓R14, R14, hx.len, bin_gtr, e1, bin_lss, e2, e3, e4, sk, e5]
  have e5 : decide (e < at') = false := decide_eq_false q5
  have mn : (if ((d.lasts.length : Nat) : Int) < e then ((d.lasts.length : Nat) : Int) else e) = min e d.lasts.length := by split <;> omega
  have ws : IntKind.i64.wrap (min e d.lasts.length - at') = min e d.lasts.length - at' := by rw [wrap_i64] <;> omega
  have lk := len_ok D false (k + 8)
  by_cases q6 : min e d.lasts.length - at' < sizeOf b.length
  · have e6 : decide (min e d.lasts.length - at' < sizeOf b.length) = true := decide_eq_true q6
    rw [lay_full ha (.inr q6)]
    refine ⟨h, exFn_of e14 ?_, D, Keep.refl _ _⟩
    rw [fnK, ln0, s14]
    simp -implicitDefEqProofs only [↓RK, RK, ↓RB, RB, decide_true, decide_false, STs, Nat.reduceBEq, ↓reduceIte, Nat.reduceLT, ↓R14, R14, hx.len, bin_gtr, e1, bin_lss, e2, e3, e4, sk, e5, lk, min2_i64, mn, bin_sub, ws, e6]
  have e6 : decide (min e d.lasts.length - at' < sizeOf b.length) = false := decide_eq_false q6
  obtain ⟨nn, hnn⟩ : ∃ nn : Nat, sizeOf b.length = nn := ⟨(sizeOf b.length).toNat, by unfold sizeOf; omega⟩
  have hnn1 : (nn : Int) = 1 + ((b.length : Int) + 63) / 64 := by rw [← hnn]; unfold sizeOf; omega
  obtain ⟨a, rfl⟩ : ∃ a : Nat, at' = a := ⟨at'.toNat, by omega⟩
  have hl1 := layLoop_loose (a : Int) b (nn - 1) 1 d
  have hl2 := layLoop_fuse (a : Int) b (nn - 1) 1 d
  obtain ⟨h1, f1, f2, f3⟩ := lay_loop (S := S) (p := p) (r := r) hx a nn (.int .i64 gen) (k + 6) (by omega) (by omega) (nn - 1) 1 (k + 9) d h (by omega) (by omega) (by omega) up D (by omega) hf
  rw [show ((1 : Nat) : Int) = 1 from rfl] at f1
  rw [lay_go ha (fun h => h.elim q5 q6) (l := layLoop (a : Int) b (nn - 1) 1 d) (by rw [hnn]; rfl)]
  rw [hnn] at sk e6
  generalize hL : layLoop (a : Int) b (nn - 1) 1 d = L at *
  obtain ⟨le, ld⟩ := L
  simp only at f1 f2 hl1 hl2 ⊢
  have pre : ∀ r : AV × Heap, (if le = 0 then seqE (runK C0 (exFn C0 E0 (k + 9)) false 14 (k + 9) (.seq (.seq (.region 13 (O14 13) false) (.seq (.region 14 (O14 14) false) (.cond (.tmp 77) (.seq (.region 15 (O14 15) false) .ret) .skip))) (.seq (.seq (.region 16 (O14 16) false) (.seq (.region 17 (O14 17) false) (.cond (.tmp 86) (.seq (.region 18 (O14 18) false) .ret) .skip))) (.seq (.seq (.region 19 (O14 19) false) (.seq (.region 20 (O14 20) false) (.cond (.tmp 91) (.seq (.region 21 (O14 21) false) .ret) .skip))) (.seq (.region 22 (O14 22) false) .ret)))) (retK [10, 11])) (retK [10, 11]) .normal (st 96 [(0, dp p), (1, .int .i64 a), (3, .int .i64 gen), (4, x), (12, .int .i64 nn), (13, .int .i64 nn), (52, .bool false)]) h1
      else some (.tuple [.int .i64 0, .int .i64 le], h1)) = some r → exFn C0 E0 (k + 9 + 1) false 14 [dp p, .int .i64 a, .int .i64 e, .int .i64 gen, x] h = some r := by
    intro r hr
    refine exFn_of e14 ?_
    rw [fnK, ln0, s14]
    simp -implicitDefEqProofs only [↓RK, RK, ↓RB, RB, decide_true, decide_false, STs, Nat.reduceBEq, ↓reduceIte, Nat.reduceLT, ↓R14, R14, hx.len, bin_gtr, e1, bin_lss, e2, e3, e4, sk, e5, lk, min2_i64, mn, bin_sub, ws, e6]
    rw [f1]
    rw [← hr]
    split
    · simp -implicitDefEqProofs only [↓RK, RK]
    · simp -implicitDefEqProofs only [↓RK, RK, ↓RB, RB, decide_true, decide_false, STs, Nat.reduceBEq, ↓reduceIte, Nat.reduceLT]
  by_cases z1 : le = 0
  case neg =>
    rw [if_pos z1]
    refine ⟨h1, pre _ ?_, f2, f3⟩
    rw [if_neg z1]
  subst z1
  rw [if_neg (fun h => h rfl)]
  have c0 : decide ((0 : Int) ≠ 0) = false := by decide
  have up1 := up.keep f3
  obtain ⟨h2, g1, g2, g3⟩ := flush_ok f2 up1 (by omega) (by omega) false (k + 8) (by omega)
  have ffz := flush_fuse ld
  have flo := flush_loose ld
  generalize ld.flush = F at *
  obtain ⟨fe, fd⟩ := F
  simp only at g1 g2 ffz flo ⊢
  by_cases z2 : fe = 0
  case neg =>
    rw [if_pos z2]
    refine ⟨h2, pre _ ?_, g2, f3.trans g3⟩
    have c1 : decide (fe ≠ 0) = true := decide_eq_true z2
    rw [if_pos rfl]
    simp -implicitDefEqProofs only [↓RK, RK, ↓RB, RB, decide_true, decide_false, STs, Nat.reduceBEq, ↓reduceIte, Nat.reduceLT, ↓R14, R14, g1, neq27, c1]
  subst z2
  rw [if_neg (fun h => h rfl)]
  have up2 := up1.keep g3
  obtain ⟨y, h3, i1, i2, i3⟩ := first_ok hx (by omega) gen h2 (k + 8) (by omega)
  have g2' := g2.fresh i3
  have up3 := up2.keep i3
  obtain ⟨h4, j1, j2, j3⟩ := write_ok g2' up3 (a : Int) (U := fun _ => False) (b := head16 (BitVec.ofInt 32 gen) b) (.inl i2.bs) (fun _ _ h => h.elim) (by omega) (by omega) (k + 6)
  have wfz := write_fuse fd (a : Int) (head16 (BitVec.ofInt 32 gen) b)
  have wlo := write_loose fd (a : Int) (head16 (BitVec.ofInt 32 gen) b)
  have kk := (f3.trans g3).trans (i3.up up2)
  generalize fd.write (a : Int) (head16 (BitVec.ofInt 32 gen) b) = W at *
  obtain ⟨we, wd⟩ := W
  simp only at j1 j2 wfz wlo ⊢
  by_cases z3 : we = 0
  case neg =>
    rw [if_pos z3]
    refine ⟨h4, pre _ ?_, j2, kk.trans j3⟩
    have c1 : decide (we ≠ 0) = true := decide_eq_true z3
    rw [if_pos rfl]
    simp -implicitDefEqProofs only [↓RK, RK, ↓RB, RB, decide_true, decide_false, STs, Nat.reduceBEq, ↓reduceIte, Nat.reduceLT, ↓R14, R14, g1, neq27, c0, i1, j1, c1]
  subst z3
  rw [if_neg (fun h => h rfl)]
  have up4 := up3.keep j3
  obtain ⟨h5, l1, l2, l3⟩ := flush_ok j2 up4 (by omega) (by omega) false (k + 8) (by omega)
  generalize wd.flush = G at *
  obtain ⟨ge, gd⟩ := G
  simp only at l1 l2 ⊢
  by_cases z4 : ge = 0
  case neg =>
    rw [if_pos z4]
    refine ⟨h5, pre _ ?_, l2, (kk.trans j3).trans l3⟩
    have c1 : decide (ge ≠ 0) = true := decide_eq_true z4
    rw [if_pos rfl]
    simp -implicitDefEqProofs only [↓RK, RK, ↓RB, RB, decide_true, decide_false, STs, Nat.reduceBEq, ↓reduceIte, Nat.reduceLT, ↓R14, R14, g1, neq27, c0, i1, j1, l1, c1]
  subst z4
  rw [if_neg (fun h => h rfl)]
  refine ⟨h5, pre _ ?_, l2, (kk.trans j3).trans l3⟩
  have wf : IntKind.i64.wrap ((a : Int) + nn) = (a : Int) + nn := by rw [wrap_i64] <;> omega
  rw [if_pos rfl]
  simp -implicitDefEqProofs only [↓RK, RK, ↓RB, RB, decide_true, decide_false, STs, Nat.reduceBEq, ↓reduceIte, Nat.reduceLT, ↓R14, R14, g1, neq27, c0, i1, j1, l1, bin_add, wf, hnn]
end Go.Ax

set_option linter.unusedVariables false
namespace Go.Ax
open Go Go.Proofs
noncomputable def O15 (i : Nat) : Array Oper := opsOf i (bodyOf Try.f15)
noncomputable def B15_1 : Code := (.block 1 (.seq (.region 2 (O15 2) false) (.seq (.seq (.region 3 (O15 3) false) (.cond (Go.Operand.tmp 22) (.seq (.region 4 (O15 4) false) .ret) .skip)) (.seq (.region 5 (O15 5) false) (.region 6 (O15 6) false)))))
theorem s15 : bodyOf Try.f15 = (.seq (.region 0 (O15 0) false) (.seq (.region 1 (O15 1) false) (.block 0 (.loop B15_1)))) := by kernel_rfl
theorem e15 : E0 15 = some ⟨34, [8, 9], bodyOf Try.f15⟩ := by kernel_rfl
theorem r15_0 (x0 x1 x2 x3 : AV) : RR O15 15 34 0 false [(0, x0), (1, x1), (2, x2), (3, x3)] fun _ call md k h =>
 k .normal (st 34 [(0, x0), (1, x1), (2, x2), (3, x3)]) h
 := fun _ _ _ _ _ _ => by kernel_rfl
theorem r15_1 (x0 x1 x2 x3 : AV) : RR O15 15 34 1 false [(0, x0), (1, x1), (2, x2), (3, x3)] fun _ call md k h =>
 k .normal (st 34 [(0, x0), (1, x1), (2, x2), (3, x3), (10, .nils)]) h
 := fun _ _ _ _ _ _ => by kernel_rfl
theorem r15_2 (x0 x1 x2 x3 x10 : AV) : RR O15 15 34 2 false [(0, x0), (1, x1), (2, x2), (3, x3), (10, x10)] fun _ call md k h =>
 bnd2 (call md 48 [x0, x1, x2, x3] h) fun v1 h2 =>
 bnd (aExtract v1 0) fun v3 =>
 bnd (aExtract v1 1) fun v4 =>
 k .normal (st 34 [(0, x0), (1, x1), (2, x2), (3, x3), (10, x10), (11, v3), (12, v4)]) h2
 := fun _ _ _ _ _ _ => by kernel_rfl
theorem r15_3 (x0 x1 x2 x3 x10 x11 x12 : AV) : RR O15 15 34 3 false [(0, x0), (1, x1), (2, x2), (3, x3), (10, x10), (11, x11), (12, x12)] fun _ call md k h =>
 bnd (aUn .not x12) fun v1 =>
 k .normal (st 34 [(0, x0), (1, x1), (2, x2), (3, x3), (10, x10), (11, x11), (22, v1)]) h
 := fun _ _ _ _ _ _ => by kernel_rfl
theorem r15_4 (x0 x1 x2 x3 x10 x11 x22 : AV) : RR O15 15 34 4 false [(0, x0), (1, x1), (2, x2), (3, x3), (10, x10), (11, x11), (22, x22)] fun _ call md k h =>
 k .normal (st 34 [(8, x10), (9, x1)]) h
 := fun _ _ _ _ _ _ => by kernel_rfl
theorem r15_5 (x0 x1 x2 x3 x10 x11 x22 : AV) : RR O15 15 34 5 false [(0, x0), (1, x1), (2, x2), (3, x3), (10, x10), (11, x11), (22, x22)] fun _ call md k h =>
 bnd (aLit tab 30 1 [(0, x11)]) fun v1 =>
 bnd2 (aApp tab 30 30 md x10 v1 h) fun v2 h3 =>
 k .normal (st 34 [(0, x0), (1, x1), (2, x2), (3, x3), (10, v2), (11, x11)]) h3
 := fun _ _ _ _ _ _ => by kernel_rfl
theorem r15_6 (x0 x1 x2 x3 x10 x11 : AV) : RR O15 15 34 6 false [(0, x0), (1, x1), (2, x2), (3, x3), (10, x10), (11, x11)] fun _ call md k h =>
 bnd (aLen tab 22 x11) fun v1 =>
 bnd2 (call md 45 [v1] h) fun v2 h3 =>
 bnd (aBinC tab .add 3 x1 v2 false) fun v4 =>
 k .normal (st 34 [(0, x0), (1, v4), (2, x2), (3, x3), (10, x10)]) h3
 := fun _ _ _ _ _ _ => by kernel_rfl
def R15 := And.intro @r15_0 <| And.intro @r15_1 <| And.intro @r15_2 <| And.intro @r15_3 <| And.intro @r15_4 <| And.intro @r15_5 <| @r15_6
end Go.Ax

namespace Go.Ax
open Go Go.Proofs
theorem oneOf_some {now : List (List UInt8)} (hc : ∀ b ∈ now, b.length = 64) {at' e gen : Int} {b : List UInt8} (h : oneOf now at' e gen = some b) :
    0 ≤ at' ∧ at' + sizeOf b.length ≤ now.length ∧ at' + sizeOf b.length ≤ e ∧ b.length ≤ 8192 := by
  unfold oneOf at h
  split at h
  · rename_i h0
    simp only at h
    split at h
    · cases h
    · split at h
      · cases h
      · rename_i h1 h2
        split at h
        · generalize hs : (get4 (((now[at'.toNat]?).getD []).drop 4)).toNat = size at *
          have h3 : ¬ 8192 < size := fun x => h2 (.inl x)
          have h4 : ¬ min e now.length - at' < sizeOf size := fun x => h2 (.inr x)
          have hl := bodyAt_length now hc at'.toNat ((sizeOf size).toNat - 1) (by unfold sizeOf at h4 ⊢; omega)
          have hb : b.length = size := by
            cases h
            rw [List.length_take, hl]
            unfold sizeOf
            omega
          rw [hb]
          exact ⟨h0.1, by omega, by omega, by omega⟩
        · cases h
  · cases h
theorem sizeOf_pos (n : Int) : 1 ≤ sizeOf n := by unfold sizeOf; omega
def scanOf (now : List (List UInt8)) (e gen : Int) : Nat → Int → List (List UInt8) × Int
  | 0, a => ([], a)
  | f + 1, a => match oneOf now a e gen with
    | none => ([], a)
    | some b => (b :: (scanOf now e gen f (a + sizeOf b.length)).1, (scanOf now e gen f (a + sizeOf b.length)).2)
theorem scanOf_none {now : List (List UInt8)} {e gen a : Int} {f : Nat} (h : oneOf now a e gen = none) : scanOf now e gen (f + 1) a = ([], a) := by simp [scanOf, h]
theorem scanOf_some {now : List (List UInt8)} {e gen a : Int} {f : Nat} {b : List UInt8} (h : oneOf now a e gen = some b) :
    scanOf now e gen (f + 1) a = (b :: (scanOf now e gen f (a + sizeOf b.length)).1, (scanOf now e gen f (a + sizeOf b.length)).2) := by simp [scanOf, h]
inductive BsL : List AV → List (List UInt8) → Prop
  | nil : BsL [] []
  | cons {v l vs ls} : Bs v l → BsL vs ls → BsL (v :: vs) (l :: ls)
def ApR (S : Obs) (h : Heap) (x : AV) (ls : List (List UInt8)) : Prop := ∃ vs, Ap 22 S h x vs ∧ BsL vs ls
theorem Bs.fits {x : AV} {l : List UInt8} (b : Bs x l) : fits tab 22 x = true := by
  rcases b with ⟨rfl, -⟩ | ⟨k, rfl⟩ <;> rfl
theorem lit30 (v : AV) (h : fits tab 22 v = true) : aLit tab 30 1 [(0, v)] = some (.vsl 22 [v] .exact) := by simp [aLit, aElems, aFill, h]
theorem app30 (x : AV) (new : List AV) (k : Tok) (h : Heap) : aApp tab 30 30 false x (.vsl 22 new k) h = aAppend tab 22 false x new h := by kernel_rfl
theorem BsL.length : ∀ {l : List AV} {m : List (List UInt8)}, BsL l m → l.length = m.length
  | _, _, .nil => rfl
  | _, _, .cons _ t => by simp [BsL.length t]
theorem BsL.append : ∀ {l l' : List AV} {m m' : List (List UInt8)}, BsL l m → BsL l' m' → BsL (l ++ l') (m ++ m')
  | _, _, _, _, .nil, h => h
  | _, _, _, _, .cons a t, h => .cons a (BsL.append t h)
theorem ApR.append {S : Obs} {h : Heap} {x v : AV} {ls : List (List UInt8)} {b : List UInt8} (a : ApR S h x ls) (up : Up S h) (hv : Bs v b) (hl : ls.length < 2 ^ 40) :
    ∃ x' h', aAppend tab 22 false x [v] h = some (x', h') ∧ ApR S h' x' (ls ++ [b]) ∧ Keep S h h' := by
  obtain ⟨vs, ha, hf⟩ := a
  have e := hf.length
  obtain ⟨x', h', kk, ap, -, ha2, k2, -⟩ := Ap.append (T := tab) (e := 22) (S := S) (h := h) (x := x) (l := vs) (new := [v]) (by rw [tu22]; exact ha) up (by simp) (by simp)
    (by simp only [tb22, List.length_singleton]; omega) (by simp only [List.length_singleton]; omega) (by simp)
  rw [tu22] at ha2
  exact ⟨x', h', ap, ⟨_, ha2, hf.append (.cons hv .nil)⟩, k2⟩
theorem ApR.fresh {S : Obs} {h h' : Heap} {x : AV} {ls : List (List UInt8)} (a : ApR S h x ls) (k : Keep (From h.length) h h') : ApR S h' x ls := by
  obtain ⟨vs, ha, hf⟩ := a
  exact ⟨vs, ha.fresh k, hf⟩
theorem scan_loop {S U : Obs} {p r : Nat} {d : Dk} (hl : d.loose.length < 2 ^ 30) (dis : ∀ i, S i → ¬ U i) (e gen : Int) (N : Nat) (hN : d.loose.length + 9000 < N) :
    ∀ (f n : Nat) (a : Int) (acc : AV) (h : Heap) (ls : List (List UInt8)), (0 ≤ a → (d.lasts.length : Int) - a < f) → f ≤ n → 0 < f → Up U h → Dsk S h p r d → ApR U h acc ls → ls.length + (f : Int) < 2 ^ 39 →
    ∃ acc' h', (∀ K : Ex → List AV → Heap → Option (AV × Heap), loopK (fun next => runK C0 (exFn C0 E0 (N + 1)) false 15 (N + 1) B15_1 (seqE next K)) n (st 34 [(0, dp p), (1, .int .i64 a), (2, .int .i64 e), (3, .int .i64 gen), (10, acc)]) h =
      K .ret (st 34 [(8, acc'), (9, .int .i64 (scanOf d.now e gen f a).2)]) h') ∧
      ApR U h' acc' (ls ++ (scanOf d.now e gen f a).1) ∧ Keep U h h' := by
  intro f
  induction f with
  | zero => intro n a acc h ls _ _ h0; omega
  | succ f ih =>
    intro n a acc h ls hf hn _ up D hacc hll
    obtain ⟨n, rfl⟩ : ∃ j, n = j + 1 := ⟨n - 1, by omega⟩
    obtain ⟨x, h1, r1, r2, r3⟩ := one_ok D hl a e gen N hN
    have D1 := D.fresh r3
    have acc1 := hacc.fresh r3
    have up1 := up.keep r3
    cases ho : oneOf d.now a e gen with
    | none =>
      rw [ho] at r1
      rw [scanOf_none ho]
      refine ⟨acc, h1, fun K => ?_, by simpa using acc1, r3.up up⟩
      rw [loopK_succ]
      generalize loopK (_ : (List AV → Heap → Option (AV × Heap)) → List AV → Heap → Option (AV × Heap)) n = Lp
      simp -implicitDefEqProofs only [B15_1, ↓RK, RK, ↓RB, RB, decide_true, decide_false, STs, Nat.reduceBEq, ↓reduceIte, Nat.reduceLT, ↓R15, R15, r1, ext0, ext1, un_not, Option.isSome_none, Bool.not_false]
    | some b =>
      rw [ho] at r1
      obtain ⟨b1, b2, b3, b4⟩ := oneOf_some D.now_cells ho
      have hf := hf b1
      rw [D.now_length] at b2
      have hfew := D.few
      have hsp := sizeOf_pos b.length
      rw [scanOf_some ho]
      have bs := (r2 b ho).bs
      obtain ⟨acc', h2, ap, a2, k2⟩ := acc1.append up1 bs (by omega)
      have sk := size_ok (b.length : Int) (by omega) false h2 N
      have wr : IntKind.i64.wrap (a + sizeOf b.length) = a + sizeOf b.length := by rw [wrap_i64] <;> omega
      have k12 := (r3.up up).trans k2
      obtain ⟨acc'', h3, g1, g2, g3⟩ := ih n (a + sizeOf b.length) acc' h2 (ls ++ [b]) (by omega) (by omega) (by omega) (up1.keep k2) (D.keep k12 fun j _ hj => dis j hj) a2 (by simp only [List.length_append, List.length_singleton]; omega)
      refine ⟨acc'', h3, fun K => ?_, by simpa using g2, k12.trans g3⟩
      rw [loopK_succ, ← g1 K]
      generalize loopK (_ : (List AV → Heap → Option (AV × Heap)) → List AV → Heap → Option (AV × Heap)) n = Lp
      simp -implicitDefEqProofs only [B15_1, ↓RK, RK, ↓RB, RB, decide_true, decide_false, STs, Nat.reduceBEq, ↓reduceIte, Nat.reduceLT, ↓R15, R15, r1, ext0, ext1, un_not, Option.isSome_some, Bool.not_true, lit30 _ bs.fits, app30, ap, bs.len, sk, bin_add, wr]
def Dk.scan (d : Dk) (a e gen : Int) : List (List UInt8) × Int := scanOf d.now e gen (d.lasts.length + 1) a
theorem scan_ok {S : Obs} {p r : Nat} {h : Heap} {d : Dk} (D : Dsk S h p r d) (hl : d.loose.length < 2 ^ 30) (a e gen : Int) (k : Nat) (hk : d.loose.length + 9001 < k) :
    ∃ x h', exFn C0 E0 (k + 1) false 15 [dp p, .int .i64 a, .int .i64 e, .int .i64 gen] h = some (.tuple [x, .int .i64 (d.scan a e gen).2], h') ∧
      ApR (From h.length) h' x (d.scan a e gen).1 ∧ Keep (From h.length) h h' := by
  obtain ⟨k, rfl⟩ : ∃ j, k = j + 1 := ⟨k - 1, by omega⟩
  have hfew := D.few
  have n0 : ([dp p, .int .i64 a, .int .i64 e, .int .i64 gen] ++ List.replicate (34 - [dp p, .int .i64 a, .int .i64 e, .int .i64 gen].length) AV.undef) = st 34 [(0, dp p), (1, .int .i64 a), (2, .int .i64 e), (3, .int .i64 gen)] := rfl
  obtain ⟨x, h', h1, h2, h3⟩ := scan_loop (U := From h.length) hl (S := fun i => i < h.length) (fun i hi hj => absurd hj (Nat.not_le.2 hi)) e gen k (by omega) (d.lasts.length + 1) (k + 1) a .nils h [] (by omega) (by omega) (by omega)
    (Up.fresh h) D.low ⟨[], .inl ⟨rfl, rfl⟩, .nil⟩ (by simp only [List.length_nil]; omega)
  refine ⟨x, h', exFn_of e15 ?_, h2, h3⟩
  rw [fnK, n0, s15]
  simp -implicitDefEqProofs only [↓RK, RK, ↓RB, RB, decide_true, decide_false, STs, Nat.reduceBEq, ↓reduceIte, Nat.reduceLT, ↓R15, R15]
  rw [h1]
  simp -implicitDefEqProofs only [↓RK, RK, ↓RB, RB, decide_true, decide_false, STs, Nat.reduceBEq, ↓reduceIte, Nat.reduceLT, Dk.scan]
end Go.Ax

set_option linter.unusedVariables false
namespace Go.Ax
open Go Go.Proofs
noncomputable def O22 (i : Nat) : Array Oper := opsOf i (bodyOf Try.f22)
noncomputable def B22_1 : Code := (.seq (.seq (.region 4 (O22 4) false) (.cond (Go.Operand.tmp 14) .skip (.exit 0))) (.seq (.block 1 (.seq (.region 6 (O22 6) true) (.cond (Go.Operand.tmp 25) (.seq (.region 7 (O22 7) false) .ret) .skip))) (.region 5 (O22 5) false)))
theorem s22 : bodyOf Try.f22 = (.seq (.region 0 (O22 0) false) (.seq (.seq (.region 1 (O22 1) false) (.cond (Go.Operand.tmp 10) (.seq (.region 2 (O22 2) false) .ret) .skip)) (.seq (.seq (.region 3 (O22 3) false) (.block 0 (.loop B22_1))) (.seq (.region 8 (O22 8) false) .ret)))) := by kernel_rfl
theorem e22 : E0 22 = some ⟨26, [4], bodyOf Try.f22⟩ := by kernel_rfl
theorem r22_0 (x0 x1 : AV) : RR O22 22 26 0 false [(0, x0), (1, x1)] fun _ call md k h =>
 k .normal (st 26 [(0, x0), (1, x1)]) h
 := fun _ _ _ _ _ _ => by kernel_rfl
theorem r22_1 (x0 x1 : AV) : RR O22 22 26 1 false [(0, x0), (1, x1)] fun _ call md k h =>
 bnd (aLen tab 22 x0) fun v1 =>
 bnd (aLen tab 22 x1) fun v2 =>
 bnd (aBinC tab .neq 3 v1 v2 false) fun v3 =>
 k .normal (st 26 [(0, x0), (1, x1), (10, v3)]) h
 := fun _ _ _ _ _ _ => by kernel_rfl
theorem r22_2 (x0 x1 x10 : AV) : RR O22 22 26 2 false [(0, x0), (1, x1), (10, x10)] fun _ call md k h =>
 k .normal (st 26 [(4, (.bool false))]) h
 := fun _ _ _ _ _ _ => by kernel_rfl
theorem r22_3 (x0 x1 x10 : AV) : RR O22 22 26 3 false [(0, x0), (1, x1), (10, x10)] fun _ call md k h =>
 k .normal (st 26 [(0, x0), (1, x1), (5, (.int .i64 0))]) h
 := fun _ _ _ _ _ _ => by kernel_rfl
theorem r22_4 (x0 x1 x5 : AV) : RR O22 22 26 4 false [(0, x0), (1, x1), (5, x5)] fun _ call md k h =>
 bnd (aLen tab 22 x0) fun v1 =>
 bnd (aBinC tab .lss 3 x5 v1 false) fun v2 =>
 k .normal (st 26 [(0, x0), (1, x1), (5, x5), (14, v2)]) h
 := fun _ _ _ _ _ _ => by kernel_rfl
theorem r22_5 (x0 x1 x5 x25 : AV) : RR O22 22 26 5 false [(0, x0), (1, x1), (5, x5), (25, x25)] fun _ call md k h =>
 bnd (aBinC tab .add 3 x5 (.int .i64 1) true) fun v1 =>
 k .normal (st 26 [(0, x0), (1, x1), (5, v1)]) h
 := fun _ _ _ _ _ _ => by kernel_rfl
theorem r22_6 (x0 x1 x5 x14 : AV) : RR O22 22 26 6 true [(0, x0), (1, x1), (5, x5), (14, x14)] fun _ call md k h =>
 bnd (aIndexAddr tab 22 x0 x5) fun v1 =>
 bnd (aLoad tab 5 v1 h) fun v2 =>
 bnd (aIndexAddr tab 22 x1 x5) fun v3 =>
 bnd (aLoad tab 5 v3 h) fun v4 =>
 bnd (aBinC tab .neq 5 v2 v4 false) fun v5 =>
 k .normal (st 26 [(0, x0), (1, x1), (5, x5), (25, v5)]) h
 := RRd (by kernel_rfl) (by kernel_rfl) (fun _ _ _ _ _ => by kernel_rfl)
theorem r22_7 (x0 x1 x5 x25 : AV) : RR O22 22 26 7 false [(0, x0), (1, x1), (5, x5), (25, x25)] fun _ call md k h =>
 k .normal (st 26 [(4, (.bool false))]) h
 := fun _ _ _ _ _ _ => by kernel_rfl
theorem r22_8 (x0 x1 x5 x14 : AV) : RR O22 22 26 8 false [(0, x0), (1, x1), (5, x5), (14, x14)] fun _ call md k h =>
 k .normal (st 26 [(4, (.bool true))]) h
 := fun _ _ _ _ _ _ => by kernel_rfl
def R22 := And.intro @r22_0 <| And.intro @r22_1 <| And.intro @r22_2 <| And.intro @r22_3 <| And.intro @r22_4 <| And.intro @r22_5 <| And.intro @r22_6 <| And.intro @r22_7 <| @r22_8
end Go.Ax

set_option linter.unusedVariables false
namespace Go.Ax
open Go Go.Proofs
noncomputable def O16 (i : Nat) : Array Oper := opsOf i (bodyOf Try.f16)
noncomputable def B16_1 : Code := (.seq (.seq (.region 4 (O16 4) false) (.cond (Go.Operand.tmp 14) .skip (.exit 0))) (.seq (.block 1 (.seq (.region 6 (O16 6) true) (.cond (Go.Operand.tmp 26) (.seq (.region 7 (O16 7) false) .ret) .skip))) (.region 5 (O16 5) false)))
theorem s16 : bodyOf Try.f16 = (.seq (.region 0 (O16 0) false) (.seq (.seq (.region 1 (O16 1) false) (.cond (Go.Operand.tmp 10) (.seq (.region 2 (O16 2) false) .ret) .skip)) (.seq (.seq (.region 3 (O16 3) false) (.block 0 (.loop B16_1))) (.seq (.region 8 (O16 8) false) .ret)))) := by kernel_rfl
theorem e16 : E0 16 = some ⟨27, [4], bodyOf Try.f16⟩ := by kernel_rfl
theorem r16_0 (x0 x1 : AV) : RR O16 16 27 0 false [(0, x0), (1, x1)] fun _ call md k h =>
 k .normal (st 27 [(0, x0), (1, x1)]) h
 := fun _ _ _ _ _ _ => by kernel_rfl
theorem r16_1 (x0 x1 : AV) : RR O16 16 27 1 false [(0, x0), (1, x1)] fun _ call md k h =>
 bnd (aLen tab 30 x0) fun v1 =>
 bnd (aLen tab 30 x1) fun v2 =>
 bnd (aBinC tab .neq 3 v1 v2 false) fun v3 =>
 k .normal (st 27 [(0, x0), (1, x1), (10, v3)]) h
 := fun _ _ _ _ _ _ => by kernel_rfl
theorem r16_2 (x0 x1 x10 : AV) : RR O16 16 27 2 false [(0, x0), (1, x1), (10, x10)] fun _ call md k h =>
 k .normal (st 27 [(4, (.bool false))]) h
 := fun _ _ _ _ _ _ => by kernel_rfl
theorem r16_3 (x0 x1 x10 : AV) : RR O16 16 27 3 false [(0, x0), (1, x1), (10, x10)] fun _ call md k h =>
 k .normal (st 27 [(0, x0), (1, x1), (5, (.int .i64 0))]) h
 := fun _ _ _ _ _ _ => by kernel_rfl
theorem r16_4 (x0 x1 x5 : AV) : RR O16 16 27 4 false [(0, x0), (1, x1), (5, x5)] fun _ call md k h =>
 bnd (aLen tab 30 x0) fun v1 =>
 bnd (aBinC tab .lss 3 x5 v1 false) fun v2 =>
 k .normal (st 27 [(0, x0), (1, x1), (5, x5), (14, v2)]) h
 := fun _ _ _ _ _ _ => by kernel_rfl
theorem r16_5 (x0 x1 x5 x26 : AV) : RR O16 16 27 5 false [(0, x0), (1, x1), (5, x5), (26, x26)] fun _ call md k h =>
 bnd (aBinC tab .add 3 x5 (.int .i64 1) true) fun v1 =>
 k .normal (st 27 [(0, x0), (1, x1), (5, v1)]) h
 := fun _ _ _ _ _ _ => by kernel_rfl
theorem r16_6 (x0 x1 x5 x14 : AV) : RR O16 16 27 6 true [(0, x0), (1, x1), (5, x5), (14, x14)] fun _ call md k h =>
 bnd (aIndexAddr tab 30 x0 x5) fun v1 =>
 bnd (aLoad tab 22 v1 h) fun v2 =>
 bnd (aIndexAddr tab 30 x1 x5) fun v3 =>
 bnd (aLoad tab 22 v3 h) fun v4 =>
 bnd2 (call md 22 [v2, v4] h) fun v5 h6 =>
 bnd (aUn .not v5) fun v7 =>
 k .normal (st 27 [(0, x0), (1, x1), (5, x5), (26, v7)]) h6
 := RRd (by kernel_rfl) (by kernel_rfl) (fun _ _ _ _ _ => by kernel_rfl)
theorem r16_7 (x0 x1 x5 x26 : AV) : RR O16 16 27 7 false [(0, x0), (1, x1), (5, x5), (26, x26)] fun _ call md k h =>
 k .normal (st 27 [(4, (.bool false))]) h
 := fun _ _ _ _ _ _ => by kernel_rfl
theorem r16_8 (x0 x1 x5 x14 : AV) : RR O16 16 27 8 false [(0, x0), (1, x1), (5, x5), (14, x14)] fun _ call md k h =>
 k .normal (st 27 [(4, (.bool true))]) h
 := fun _ _ _ _ _ _ => by kernel_rfl
def R16 := And.intro @r16_0 <| And.intro @r16_1 <| And.intro @r16_2 <| And.intro @r16_3 <| And.intro @r16_4 <| And.intro @r16_5 <| And.intro @r16_6 <| And.intro @r16_7 <| @r16_8
end Go.Ax

namespace Go.Ax
open Go Go.Proofs
theorem u8_neq (T : Tab) (t : Ty) (a b : UInt8) (c : Bool) : aBinC T .neq t (U8 a) (U8 b) c = some (.bool (decide (a ≠ b))) := by
  simp only [U8, bin_neq, ne_eq, Int.natCast_inj, UInt8.toNat_inj]
theorem drop_get {α : Type} {l : List α} {i : Nat} {a : α} (h : l[i]? = some a) : l.drop i = a :: l.drop (i + 1) := by
  obtain ⟨hl, rfl⟩ := List.getElem?_eq_some_iff.1 h
  exact List.drop_eq_getElem_cons hl
theorem same_loop {x y : AV} {l m : List UInt8} (hx : Bs x l) (hy : Bs y m) (hlm : l.length = m.length) (hl : l.length < 2 ^ 62) (call : CallF) (md : Bool) (N : Nat) (h : Heap) (K : Ex → List AV → Heap → Option (AV × Heap)) :
    ∀ (c i n : Nat), i + c = l.length → c < n →
    loopK (fun next => runK C0 call md 22 N B22_1 (seqE next K)) n (st 26 [(0, x), (1, y), (5, .int .i64 i)]) h =
      if l.drop i = m.drop i then K (.exit 0) (st 26 [(0, x), (1, y), (5, .int .i64 l.length), (14, .bool false)]) h else K .ret (st 26 [(4, .bool false)]) h := by
  intro c
  induction c with
  | zero =>
    intro i n hi hn
    obtain ⟨n, rfl⟩ : ∃ j, n = j + 1 := ⟨n - 1, by omega⟩
    obtain rfl : i = l.length := by omega
    rw [if_pos (by rw [List.drop_length, hlm, List.drop_length]), loopK_succ]
    generalize loopK (_ : (List AV → Heap → Option (AV × Heap)) → List AV → Heap → Option (AV × Heap)) n = Lp
    have e : decide (((l.length : Nat) : Int) < (l.length : Nat)) = false := decide_eq_false (by omega)
    simp -implicitDefEqProofs only [B22_1, ↓RK, RK, ↓RB, RB, decide_true, decide_false, STs, Nat.reduceBEq, ↓reduceIte, Nat.reduceLT, ↓R22, R22, hx.len, bin_lss, e]
  | succ c ih =>
    intro i n hi hn
    obtain ⟨n, rfl⟩ : ∃ j, n = j + 1 := ⟨n - 1, by omega⟩
    have e : decide (((i : Nat) : Int) < (l.length : Nat)) = true := decide_eq_true (by omega)
    have wr : IntKind.i64.wrap ((i : Int) + 1) = ((i + 1 : Nat) : Int) := by rw [wrap_i64] <;> omega
    obtain ⟨a, ha⟩ : ∃ a, l[i]? = some a := ⟨l[i]'(by omega), List.getElem?_eq_getElem _⟩
    obtain ⟨b, hb⟩ : ∃ b, m[i]? = some b := ⟨m[i]'(by omega), List.getElem?_eq_getElem _⟩
    have ih' := ih (i + 1) n (by omega) (by omega)
    rw [drop_get ha, drop_get hb, loopK_succ]
    generalize loopK (_ : (List AV → Heap → Option (AV × Heap)) → List AV → Heap → Option (AV × Heap)) n = Lp at *
    by_cases hab : a = b
    · have e1 : decide (a ≠ b) = false := decide_eq_false fun h => h hab
      simp only [hab, List.cons.injEq, true_and]
      rw [← ih']
      simp -implicitDefEqProofs only [B22_1, ↓RK, RK, ↓RB, RB, decide_true, decide_false, STs, Nat.reduceBEq, ↓reduceIte, Nat.reduceLT, ↓R22, R22, hx.len, bin_lss, e, hx.idx ha, hy.idx hb, load5, u8_neq, e1, bin_add, wr]
    · have e1 : decide (a ≠ b) = true := decide_eq_true hab
      rw [if_neg (by simp [hab])]
      simp -implicitDefEqProofs only [B22_1, ↓RK, RK, ↓RB, RB, decide_true, decide_false, STs, Nat.reduceBEq, ↓reduceIte, Nat.reduceLT, ↓R22, R22, hx.len, bin_lss, e, hx.idx ha, hy.idx hb, load5, u8_neq, e1]
theorem same_ok {x y : AV} {l m : List UInt8} (hx : Bs x l) (hy : Bs y m) (hl : l.length < 2 ^ 62) (md : Bool) (h : Heap) (k : Nat) (hk : l.length + 1 < k) : exFn C0 E0 k md 22 [x, y] h = some (.bool (decide (l = m)), h) := by
  obtain ⟨k, rfl⟩ : ∃ j, k = j + 1 := ⟨k - 1, by omega⟩
  have n0 : ([x, y] ++ List.replicate (26 - [x, y].length) AV.undef) = st 26 [(0, x), (1, y)] := rfl
  refine exFn_of e22 ?_
  rw [fnK, n0, s22]
  by_cases hlm : l.length = m.length
  · have e : decide (((l.length : Nat) : Int) ≠ (m.length : Nat)) = false := decide_eq_false (by omega)
    simp -implicitDefEqProofs only [↓RK, RK, ↓RB, RB, decide_true, decide_false, STs, Nat.reduceBEq, ↓reduceIte, Nat.reduceLT, ↓R22, R22, hx.len, hy.len, bin_neq, e]
    rw [show AV.int .i64 0 = .int .i64 ((0 : Nat) : Int) from rfl, same_loop hx hy hlm hl _ md k h _ l.length 0 k (by omega) (by omega), List.drop_zero, List.drop_zero]
    by_cases h2 : l = m
    · rw [if_pos h2, decide_eq_true h2]
      simp -implicitDefEqProofs only [↓RK, RK, ↓RB, RB, decide_true, decide_false, STs, Nat.reduceBEq, ↓reduceIte, Nat.reduceLT, ↓R22, R22]
    · rw [if_neg h2, decide_eq_false h2]
      simp -implicitDefEqProofs only [↓RK, RK, ↓RB, RB, decide_true, decide_false, STs, Nat.reduceBEq, ↓reduceIte, Nat.reduceLT, ↓R22, R22]
  · have e : decide (((l.length : Nat) : Int) ≠ (m.length : Nat)) = true := decide_eq_true (by omega)
    rw [decide_eq_false (show ¬ l = m from fun e => hlm (by rw [e]))]
    simp -implicitDefEqProofs only [↓RK, RK, ↓RB, RB, decide_true, decide_false, STs, Nat.reduceBEq, ↓reduceIte, Nat.reduceLT, ↓R22, R22, hx.len, hy.len, bin_neq, e]
def Rw (x : AV) (ls : List (List UInt8)) : Prop := (x = .nils ∧ ls = []) ∨ ∃ vs k, x = .vsl 22 vs k ∧ BsL vs ls
theorem ApR.rw {S : Obs} {h : Heap} {x : AV} {ls : List (List UInt8)} (a : ApR S h x ls) : Rw x ls := by
  obtain ⟨vs, ⟨rfl, rfl⟩ | ⟨k, rfl, -⟩, hf⟩ := a
  · cases hf; exact .inl ⟨rfl, rfl⟩
  · exact .inr ⟨vs, k, rfl, hf⟩
theorem Rw.len {x : AV} {ls : List (List UInt8)} (hx : Rw x ls) : aLen tab 30 x = some (.int .i64 ls.length) := by
  rcases hx with ⟨rfl, rfl⟩ | ⟨vs, k, rfl, hf⟩
  · exact len_nils30
  · rw [len30, hf.length]
theorem BsL.get : ∀ {vs : List AV} {ls : List (List UInt8)}, BsL vs ls → ∀ {i : Nat} {l : List UInt8}, ls[i]? = some l → ∃ v, vs[i]? = some v ∧ Bs v l
  | _, _, .nil, i, l, h => by simp at h
  | _, _, .cons a t, 0, l, h => by simp at h; subst h; exact ⟨_, rfl, a⟩
  | _, _, .cons a t, i + 1, l, h => by simpa using t.get (i := i) (by simpa using h)
theorem Rw.idx {x : AV} {ls : List (List UInt8)} (hx : Rw x ls) {i : Nat} {l : List UInt8} (hi : ls[i]? = some l) : ∃ v, aIndexAddr tab 30 x (.int .i64 i) = some (.vptr 22 v) ∧ Bs v l := by
  rcases hx with ⟨rfl, rfl⟩ | ⟨vs, k, rfl, hf⟩
  · simp at hi
  · obtain ⟨v, hv, hb⟩ := hf.get hi
    exact ⟨v, by rw [idx30, hv]; rfl, hb⟩
theorem rows_loop {x y : AV} {l m : List (List UInt8)} (hx : Rw x l) (hy : Rw y m) (hlm : l.length = m.length) (hl : l.length < 2 ^ 62) (B : Nat) (hB : ∀ b ∈ l, b.length < B) (hB2 : B < 2 ^ 62) (N : Nat) (hN : B + 1 < N) (md : Bool) (h : Heap) (K : Ex → List AV → Heap → Option (AV × Heap)) :
    ∀ (c i n : Nat), i + c = l.length → c < n →
    loopK (fun next => runK C0 (exFn C0 E0 N) md 16 N B16_1 (seqE next K)) n (st 27 [(0, x), (1, y), (5, .int .i64 i)]) h =
      if l.drop i = m.drop i then K (.exit 0) (st 27 [(0, x), (1, y), (5, .int .i64 l.length), (14, .bool false)]) h else K .ret (st 27 [(4, .bool false)]) h := by
  intro c
  induction c with
  | zero =>
    intro i n hi hn
    obtain ⟨n, rfl⟩ : ∃ j, n = j + 1 := ⟨n - 1, by omega⟩
    obtain rfl : i = l.length := by omega
    rw [if_pos (by rw [List.drop_length, hlm, List.drop_length]), loopK_succ]
    generalize loopK (_ : (List AV → Heap → Option (AV × Heap)) → List AV → Heap → Option (AV × Heap)) n = Lp
    have e : decide (((l.length : Nat) : Int) < (l.length : Nat)) = false := decide_eq_false (by omega)
    simp -implicitDefEqProofs only [B16_1, ↓RK, RK, ↓RB, RB, decide_true, decide_false, STs, Nat.reduceBEq, ↓reduceIte, Nat.reduceLT, ↓R16, R16, hx.len, bin_lss, e]
  | succ c ih =>
    intro i n hi hn
    obtain ⟨n, rfl⟩ : ∃ j, n = j + 1 := ⟨n - 1, by omega⟩
    have e : decide (((i : Nat) : Int) < (l.length : Nat)) = true := decide_eq_true (by omega)
    have wr : IntKind.i64.wrap ((i : Int) + 1) = ((i + 1 : Nat) : Int) := by rw [wrap_i64] <;> omega
    obtain ⟨a, ha⟩ : ∃ a, l[i]? = some a := ⟨l[i]'(by omega), List.getElem?_eq_getElem _⟩
    obtain ⟨b, hb⟩ : ∃ b, m[i]? = some b := ⟨m[i]'(by omega), List.getElem?_eq_getElem _⟩
    obtain ⟨u, hu, bu⟩ := hx.idx ha
    obtain ⟨v, hv, bv⟩ := hy.idx hb
    have haB := hB a (List.mem_of_getElem? ha)
    have sm := same_ok bu bv (by omega) md h N (by omega)
    have ih' := ih (i + 1) n (by omega) (by omega)
    rw [drop_get ha, drop_get hb, loopK_succ]
    generalize loopK (_ : (List AV → Heap → Option (AV × Heap)) → List AV → Heap → Option (AV × Heap)) n = Lp at *
    by_cases hab : a = b
    · have e1 : decide (a = b) = true := decide_eq_true hab
      rw [e1] at sm
      simp only [hab, List.cons.injEq, true_and]
      rw [← ih']
      simp -implicitDefEqProofs only [B16_1, ↓RK, RK, ↓RB, RB, decide_true, decide_false, STs, Nat.reduceBEq, ↓reduceIte, Nat.reduceLT, ↓R16, R16, hx.len, bin_lss, e, hu, hv, load22, sm, un_not, Bool.not_true, bin_add, wr]
    · have e1 : decide (a = b) = false := decide_eq_false hab
      rw [e1] at sm
      rw [if_neg (by simp [hab])]
      simp -implicitDefEqProofs only [B16_1, ↓RK, RK, ↓RB, RB, decide_true, decide_false, STs, Nat.reduceBEq, ↓reduceIte, Nat.reduceLT, ↓R16, R16, hx.len, bin_lss, e, hu, hv, load22, sm, un_not, Bool.not_false]
theorem rows_ok {x y : AV} {l m : List (List UInt8)} (hx : Rw x l) (hy : Rw y m) (hl : l.length < 2 ^ 62) (B : Nat) (hB : ∀ b ∈ l, b.length < B) (hB2 : B < 2 ^ 62) (md : Bool) (h : Heap) (k : Nat) (hk : l.length + B + 3 < k) :
    exFn C0 E0 k md 16 [x, y] h = some (.bool (decide (l = m)), h) := by
  obtain ⟨k, rfl⟩ : ∃ j, k = j + 1 := ⟨k - 1, by omega⟩
  have n0 : ([x, y] ++ List.replicate (27 - [x, y].length) AV.undef) = st 27 [(0, x), (1, y)] := rfl
  refine exFn_of e16 ?_
  rw [fnK, n0, s16]
  by_cases hlm : l.length = m.length
  · have e : decide (((l.length : Nat) : Int) ≠ (m.length : Nat)) = false := decide_eq_false (by omega)
    simp -implicitDefEqProofs only [↓RK, RK, ↓RB, RB, decide_true, decide_false, STs, Nat.reduceBEq, ↓reduceIte, Nat.reduceLT, ↓R16, R16, hx.len, hy.len, bin_neq, e]
    rw [show AV.int .i64 0 = .int .i64 ((0 : Nat) : Int) from rfl, rows_loop hx hy hlm hl B hB hB2 k (by omega) md h _ l.length 0 k (by omega) (by omega), List.drop_zero, List.drop_zero]
    by_cases h2 : l = m
    · rw [if_pos h2, decide_eq_true h2]
      simp -implicitDefEqProofs only [↓RK, RK, ↓RB, RB, decide_true, decide_false, STs, Nat.reduceBEq, ↓reduceIte, Nat.reduceLT, ↓R16, R16]
    · rw [if_neg h2, decide_eq_false h2]
      simp -implicitDefEqProofs only [↓RK, RK, ↓RB, RB, decide_true, decide_false, STs, Nat.reduceBEq, ↓reduceIte, Nat.reduceLT, ↓R16, R16]
  · have e : decide (((l.length : Nat) : Int) ≠ (m.length : Nat)) = true := decide_eq_true (by omega)
    rw [decide_eq_false (show ¬ l = m from fun e => hlm (by rw [e]))]
    simp -implicitDefEqProofs only [↓RK, RK, ↓RB, RB, decide_true, decide_false, STs, Nat.reduceBEq, ↓reduceIte, Nat.reduceLT, ↓R16, R16, hx.len, hy.len, bin_neq, e]
end Go.Ax

set_option linter.unusedVariables false
namespace Go.Ax
open Go Go.Proofs
noncomputable def O24 (i : Nat) : Array Oper := opsOf i (bodyOf Try.f24)
theorem s24 : bodyOf Try.f24 = (.seq (.region 0 (O24 0) false) (.cond (Go.Operand.tmp 5) (.region 1 (O24 1) false) .skip)) := by kernel_rfl
theorem e24 : E0 24 = some ⟨11, [], bodyOf Try.f24⟩ := by kernel_rfl
theorem r24_0 (x0 x1 : AV) : RR O24 24 11 0 false [(0, x0), (1, x1)] fun _ call md k h =>
 bnd (aBinC tab .neq 25 x0 .nilp true) fun v1 =>
 k .normal (st 11 [(0, x0), (1, x1), (5, v1)]) h
 := fun _ _ _ _ _ _ => by kernel_rfl
theorem r24_1 (x0 x1 x5 : AV) : RR O24 24 11 1 false [(0, x0), (1, x1), (5, x5)] fun _ call md k h =>
 bnd (aMax [x1, (.int .i64 0)]) fun v1 =>
 bnd (aNil x0) fun v2 =>
 bnd (aFieldAddr tab 84 v2 2) fun v3 =>
 bnd (aStore tab 3 v3 v1 h) fun h4 =>
 k .normal (st 11 []) h4
 := fun _ _ _ _ _ _ => by kernel_rfl
def R24 := And.intro @r24_0 <| @r24_1
end Go.Ax

set_option linter.unusedVariables false
namespace Go.Ax
open Go Go.Proofs
noncomputable def O25 (i : Nat) : Array Oper := opsOf i (bodyOf Try.f25)
noncomputable def B25_1 : Code := (.seq (.region 2 (O25 2) false) (.seq (.cond (Go.Operand.tmp 19) .skip (.exit 0)) (.seq (.block 1 (.seq (.region 3 (O25 3) false) (.block 2 (.seq (.region 4 (O25 4) false) (.cond (Go.Operand.tmp 23) (.seq (.region 5 (O25 5) false) (.region 6 (O25 6) true)) (.seq (.region 7 (O25 7) false) (.cond (Go.Operand.tmp 43) (.region 8 (O25 8) true) .skip))))))) (.region 9 (O25 9) false))))
theorem s25 : bodyOf Try.f25 = (.seq (.seq (.region 0 (O25 0) false) (.cond (Go.Operand.tmp 12) .ret .skip)) (.seq (.seq (.region 1 (O25 1) false) (.block 0 (.loop B25_1))) (.region 10 (O25 10) false))) := by kernel_rfl
theorem e25 : E0 25 = some ⟨69, [], bodyOf Try.f25⟩ := by kernel_rfl
theorem r25_0 (x0 x1 x2 x3 : AV) : RR O25 25 69 0 false [(0, x0), (1, x1), (2, x2), (3, x3)] fun _ call md k h =>
 bnd (aBinC tab .eql 25 x0 .nilp true) fun v1 =>
 k .normal (st 69 [(0, x0), (1, x1), (2, x2), (3, x3), (12, v1)]) h
 := fun _ _ _ _ _ _ => by kernel_rfl
theorem r25_1 (x0 x1 x2 x3 x12 : AV) : RR O25 25 69 1 false [(0, x0), (1, x1), (2, x2), (3, x3), (12, x12)] fun _ call md k h =>
 bnd (aNil x0) fun v1 =>
 bnd (aFieldAddr tab 84 v1 1) fun v2 =>
 bnd (aLoad tab 82 v2 h) fun v3 =>
 bnd (aLen tab 82 v3) fun v4 =>
 k .normal (st 69 [(0, x0), (1, x1), (2, x2), (3, x3), (16, v3), (17, v4), (18, (.int .i64 0))]) h
 := fun _ _ _ _ _ _ => by kernel_rfl
theorem r25_2 (x0 x1 x2 x3 x16 x17 x18 : AV) : RR O25 25 69 2 false [(0, x0), (1, x1), (2, x2), (3, x3), (16, x16), (17, x17), (18, x18)] fun _ call md k h =>
 bnd (aBinC tab .lss 3 x18 x17 false) fun v1 =>
 k .normal (st 69 [(0, x0), (1, x1), (2, x2), (3, x3), (16, x16), (17, x17), (18, x18), (19, v1)]) h
 := fun _ _ _ _ _ _ => by kernel_rfl
theorem r25_3 (x0 x1 x2 x3 x16 x17 x18 x19 : AV) : RR O25 25 69 3 false [(0, x0), (1, x1), (2, x2), (3, x3), (16, x16), (17, x17), (18, x18), (19, x19)] fun _ call md k h =>
 bnd (aIndexAddr tab 82 x16 x18) fun v1 =>
 bnd (aLoad tab 91 v1 h) fun v2 =>
 bnd2 (aAlloc tab 91 h) fun v3 h4 =>
 bnd (aStore tab 91 v3 v2 h4) fun h5 =>
 k .normal (st 69 [(0, x0), (1, x1), (2, x2), (3, x3), (8, x18), (9, v3), (16, x16), (17, x17), (18, x18)]) h5
 := fun _ _ _ _ _ _ => by kernel_rfl
theorem r25_4 (x0 x1 x2 x3 x8 x9 x16 x17 x18 : AV) : RR O25 25 69 4 false [(0, x0), (1, x1), (2, x2), (3, x3), (8, x8), (9, x9), (16, x16), (17, x17), (18, x18)] fun _ call md k h =>
 bnd (aBinC tab .eql 3 x8 x2 false) fun v1 =>
 k .normal (st 69 [(0, x0), (1, x1), (2, x2), (3, x3), (8, x8), (9, x9), (16, x16), (17, x17), (18, x18), (23, v1)]) h
 := fun _ _ _ _ _ _ => by kernel_rfl
theorem r25_5 (x0 x1 x2 x3 x8 x9 x16 x17 x18 x23 : AV) : RR O25 25 69 5 false [(0, x0), (1, x1), (2, x2), (3, x3), (8, x8), (9, x9), (16, x16), (17, x17), (18, x18), (23, x23)] fun _ call md k h =>
 bnd (aMax [x3, (.int .i64 0)]) fun v1 =>
 bnd (aMin [v1, (.int .i64 64)]) fun v2 =>
 k .normal (st 69 [(0, x0), (1, x1), (2, x2), (3, x3), (9, x9), (10, v2), (16, x16), (17, x17), (18, x18)]) h
 := fun _ _ _ _ _ _ => by kernel_rfl
theorem r25_6 (x0 x1 x2 x3 x9 x10 x16 x17 x18 : AV) : RR O25 25 69 6 true [(0, x0), (1, x1), (2, x2), (3, x3), (9, x9), (10, x10), (16, x16), (17, x17), (18, x18)] fun _ call md k h =>
 bnd (aNil x0) fun v1 =>
 bnd (aFieldAddr tab 84 v1 0) fun v2 =>
 bnd (aLoad tab 81 v2 h) fun v3 =>
 bnd (aFieldAddr tab 91 x9 0) fun v4 =>
 bnd (aLoad tab 3 v4 h) fun v5 =>
 bnd (aIndexAddr tab 81 v3 v5) fun v6 =>
 bnd (aSlice tab 89 v6 none (some x10) none) fun v7 =>
 bnd (aFieldAddr tab 91 x9 1) fun v8 =>
 bnd (aSlice tab 89 v8 none (some x10) none) fun v9 =>
 bnd2 (aCpy tab 22 v7 v9 h) fun v10 h11 =>
 k .normal (st 69 [(0, x0), (1, x1), (2, x2), (3, x3), (16, x16), (17, x17), (18, x18)]) h11
 := RRd (by kernel_rfl) (by kernel_rfl) (fun _ _ _ _ _ => by kernel_rfl)
theorem r25_7 (x0 x1 x2 x3 x8 x9 x16 x17 x18 x23 : AV) : RR O25 25 69 7 false [(0, x0), (1, x1), (2, x2), (3, x3), (8, x8), (9, x9), (16, x16), (17, x17), (18, x18), (23, x23)] fun _ call md k h =>
 bnd (aBinC tab .rem 3 x8 (.int .i64 64) true) fun v1 =>
 bnd (aBinC tab .shr 44 x1 v1 false) fun v2 =>
 bnd (aBinC tab .and 44 v2 (.int .u64 1) true) fun v3 =>
 bnd (aBinC tab .eql 44 v3 (.int .u64 1) true) fun v4 =>
 k .normal (st 69 [(0, x0), (1, x1), (2, x2), (3, x3), (9, x9), (16, x16), (17, x17), (18, x18), (43, v4)]) h
 := fun _ _ _ _ _ _ => by kernel_rfl
theorem r25_8 (x0 x1 x2 x3 x9 x16 x17 x18 x43 : AV) : RR O25 25 69 8 true [(0, x0), (1, x1), (2, x2), (3, x3), (9, x9), (16, x16), (17, x17), (18, x18), (43, x43)] fun _ call md k h =>
 bnd (aNil x0) fun v1 =>
 bnd (aFieldAddr tab 84 v1 0) fun v2 =>
 bnd (aLoad tab 81 v2 h) fun v3 =>
 bnd (aFieldAddr tab 91 x9 0) fun v4 =>
 bnd (aLoad tab 3 v4 h) fun v5 =>
 bnd (aFieldAddr tab 91 x9 1) fun v6 =>
 bnd (aLoad tab 89 v6 h) fun v7 =>
 bnd (aIndexAddr tab 81 v3 v5) fun v8 =>
 bnd (aStore tab 89 v8 v7 h) fun h9 =>
 k .normal (st 69 [(0, x0), (1, x1), (2, x2), (3, x3), (16, x16), (17, x17), (18, x18)]) h9
 := RRd (by kernel_rfl) (by kernel_rfl) (fun _ _ _ _ _ => by kernel_rfl)
theorem r25_9a (x0 x1 x2 x3 x9 x16 x17 x18 x43 : AV) : RR O25 25 69 9 false [(0, x0), (1, x1), (2, x2), (3, x3), (9, x9), (16, x16), (17, x17), (18, x18), (43, x43)] fun _ call md k h =>
 bnd (aBinC tab .add 3 x18 (.int .i64 1) true) fun v1 =>
 k .normal (st 69 [(0, x0), (1, x1), (2, x2), (3, x3), (16, x16), (17, x17), (18, v1)]) h
 := fun _ _ _ _ _ _ => by kernel_rfl
theorem r25_9b (x0 x1 x2 x3 x16 x17 x18 : AV) : RR O25 25 69 9 false [(0, x0), (1, x1), (2, x2), (3, x3), (16, x16), (17, x17), (18, x18)] fun _ call md k h =>
 bnd (aBinC tab .add 3 x18 (.int .i64 1) true) fun v1 =>
 k .normal (st 69 [(0, x0), (1, x1), (2, x2), (3, x3), (16, x16), (17, x17), (18, v1)]) h
 := fun _ _ _ _ _ _ => by kernel_rfl
theorem r25_10 (x0 x1 x2 x3 x16 x17 x18 x19 : AV) : RR O25 25 69 10 false [(0, x0), (1, x1), (2, x2), (3, x3), (16, x16), (17, x17), (18, x18), (19, x19)] fun _ call md k h =>
 bnd (aNil x0) fun v1 =>
 bnd (aFieldAddr tab 84 v1 1) fun v2 =>
 bnd (aStore tab 82 v2 .nils h) fun h3 =>
 bnd (aNil x0) fun v4 =>
 bnd (aFieldAddr tab 84 v4 2) fun v5 =>
 bnd (aStore tab 3 v5 (.int .i64 (-1)) h3) fun h6 =>
 bnd (aNil x0) fun v7 =>
 bnd (aFieldAddr tab 84 v7 3) fun v8 =>
 bnd (aStore tab 4 v8 (.bool false) h6) fun h9 =>
 k .normal (st 69 []) h9
 := fun _ _ _ _ _ _ => by kernel_rfl
def R25 := And.intro @r25_0 <| And.intro @r25_1 <| And.intro @r25_2 <| And.intro @r25_3 <| And.intro @r25_4 <| And.intro @r25_5 <| And.intro @r25_6 <| And.intro @r25_7 <| And.intro @r25_8 <| And.intro @r25_9a <| And.intro @r25_9b <| @r25_10
end Go.Ax

namespace Go.Ax
open Go Go.Proofs
theorem results0 (tm : List AV) : results [] tm = .tuple [] := rfl
def Dk.setFuse (d : Dk) (n : Int) : Dk := { d with fuse := max n 0 }
theorem fuse_ok {S : Obs} {p r : Nat} {h : Heap} {d : Dk} (D : Dsk S h p r d) (n : Int) (md : Bool) (k : Nat) :
    ∃ h', exFn C0 E0 (k + 1) md 24 [dp p, .int .i64 n] h = some (.tuple [], h') ∧ Dsk S h' p r (d.setFuse n) ∧ Keep S h h' := by
  obtain ⟨x, hx, ha⟩ := D.var
  have n0 : ([dp p, .int .i64 n] ++ List.replicate (11 - [dp p, AV.int .i64 n].length) AV.undef) = st 11 [(0, dp p), (1, .int .i64 n)] := rfl
  have mx : (if n < 0 then 0 else n) = max n 0 := by split <;> omega
  refine ⟨_, exFn_of e24 ?_, D.upd hx ha (max n 0) d.down, Keep.set h _ D.hp⟩
  rw [fnK, n0, s24]
  simp -implicitDefEqProofs only [↓RK, RK, ↓RB, RB, decide_true, decide_false, STs, Nat.reduceBEq, ↓reduceIte, Nat.reduceLT, ↓R24, R24, dp_neq, dp_chk, dpf2, max2_i64, mx, dst2 hx, results0]
def partOf (a : Int) : Nat := (min (max a 0) 64).toNat
def crashStep (K : Nat) (torn at' : Int) (k : Nat) (l : List (List UInt8)) (w : Nat × List UInt8) : List (List UInt8) :=
  if (k : Int) = torn then l.set w.1 (w.2.take (partOf at') ++ ((l[w.1]?).getD []).drop (partOf at'))
  else if K / 2 ^ (k % 64) % 2 = 1 then l.set w.1 w.2 else l
def crashed (K : Nat) (torn at' : Int) : Nat → List (List UInt8) → List (Nat × List UInt8) → List (List UInt8)
  | _, l, [] => l
  | k, l, w :: ws => crashed K torn at' (k + 1) (crashStep K torn at' k l w) ws
def Dk.crash (d : Dk) (K : Nat) (torn at' : Int) : Dk := ⟨crashed K torn at' 0 d.lasts d.loose, [], -1, false⟩
theorem crashStep_length (K : Nat) (torn at' : Int) (k : Nat) (l : List (List UInt8)) (w : Nat × List UInt8) : (crashStep K torn at' k l w).length = l.length := by
  unfold crashStep; split
  · simp
  · split <;> simp
theorem crashed_length (K : Nat) (torn at' : Int) : ∀ (ws : List (Nat × List UInt8)) (k : Nat) (l : List (List UInt8)), (crashed K torn at' k l ws).length = l.length
  | [], _, _ => rfl
  | w :: ws, k, l => by rw [crashed, crashed_length K torn at' ws, crashStep_length]
theorem partOf_le (a : Int) : partOf a ≤ 64 := by unfold partOf; omega
theorem crashStep_cells (K : Nat) (torn at' : Int) (k : Nat) (l : List (List UInt8)) (w : Nat × List UInt8) (hl : ∀ b ∈ l, b.length = 64) (hw : w.2.length = 64) (hi : w.1 < l.length) : ∀ b ∈ crashStep K torn at' k l w, b.length = 64 := by
  have hp := partOf_le at'
  have hc : ((l[w.1]?).getD []).length = 64 := by rw [List.getElem?_eq_getElem hi]; exact hl _ (List.getElem_mem hi)
  intro b hb
  unfold crashStep at hb
  split at hb
  · rcases List.mem_or_eq_of_mem_set hb with hb | rfl
    · exact hl b hb
    · simp [hw, hc]; omega
  · split at hb
    · rcases List.mem_or_eq_of_mem_set hb with hb | rfl
      · exact hl b hb
      · exact hw
    · exact hl b hb
theorem shr_64 (K n : Nat) (hn : n < 64) : aBinC tab .shr 44 (.int .u64 K) (.int .i64 n) false = some (.int .u64 ((K / 2 ^ n : Nat) : Int)) := by
  have e : Go.binOp .shr 44 (.int .u64 (K : Int)) (.int .i64 (n : Int)) = pure (.int .u64 ((K : Int) / 2 ^ n)) := by
    have := Go.shift_shr .u64 .i64 (K : Int) (n : Int) (by omega) (by have : IntKind.u64.bits = 64 := rfl; omega)
    rw [Int.toNat_natCast] at this
    exact this
  simp only [aBinC, aBin, e, ofPure, pure]
  simp
theorem and_64 (a : Nat) (ha : a < 2 ^ 64) : aBinC tab .and 44 (.int .u64 a) (.int .u64 1) true = some (.int .u64 ((a % 2 : Nat) : Int)) := by
  have e : Go.binOp .and 44 (.int .u64 (a : Int)) (.int .u64 1) = pure (.int .u64 (IntKind.u64.wrap ((BitVec.ofInt 64 (a : Int) &&& BitVec.ofInt 64 1).toNat : Int))) := rfl
  simp only [aBinC, aBin, e, ofPure, pure, wrap_u64]
  have e2 : (BitVec.ofInt 64 (a : Int) &&& BitVec.ofInt 64 1).toNat = a % 2 := by
    rw [BitVec.toNat_and]
    have h1 : (BitVec.ofInt 64 (a : Int)).toNat = a := by simp; omega
    have h2 : (BitVec.ofInt 64 (1 : Int)).toNat = 1 := by decide
    rw [h1, h2, Nat.and_one_is_mod]
  rw [e2]
  congr 2
  omega
theorem rem_64 (a : Nat) (ha : a < 2 ^ 62) : aBinC tab .rem 3 (.int .i64 a) (.int .i64 64) true = some (.int .i64 ((a % 64 : Nat) : Int)) := by
  simp [aBinC, aBin, Go.binOp, Op.intDiv, ofPure, pure]
  rw [Int.tmod_eq_emod_of_nonneg (by omega)]
  try rw [wrap_i64]
  all_goals try omega
theorem sl89_to (q i part : Nat) (hp : part ≤ 64) : aSlice tab 89 (.ref q [i] 88) none (some (.int .i64 part)) none = some (if 0 < part then .msl q [i] 5 0 part else .vsl 5 [] .none) := by
  have e : ((part : Int) ≤ 64) := by omega
  simp only [aSlice, td89, tu89, aBounds, aBound, tu5, if_true]
  by_cases h : 0 < part
  · simp [h, e]
  · simp [h, e]
theorem cpy_part {H : Heap} {r q i part : Nat} {c : List (List UInt8)} {w : Nat × List UInt8} (hp : part ≤ 64) (hr : H[r]? = some (.row 88 (c.map cellAV))) (hq : H[q]? = some (.var 91 (writeAV w))) (hi : i < c.length)
    (hc : c[i].length = 64) (hw : w.2.length = 64) :
    ∃ v H', aCpy tab 22 (if 0 < part then .msl r [i] 5 0 part else .vsl 5 [] .none) (if 0 < part then .msl q [1] 5 0 part else .vsl 5 [] .none) H = some (v, H') ∧
      H'[r]? = some (.row 88 ((c.set i (w.2.take part ++ c[i].drop part)).map cellAV)) ∧ ∀ j, j ≠ r → H'[j]? = H[j]? := by
  by_cases h : 0 < part
  · rw [if_pos h, if_pos h]
    have hlt := (List.getElem?_eq_some_iff.1 hr).1
    have hsrc : srcElems tab 5 H (.msl q [1] 5 0 part) = some ((w.2.take part).map U8) := by
      simp [srcElems, slElems, hq, rowGet, objGet, getP, writeAV, cellAV, hw, hp, List.map_take]
    have hl : (w.2.take part).length = part := by simp; omega
    refine ⟨.int .i64 part, H.set r (.row 88 ((c.set i (w.2.take part ++ c[i].drop part)).map cellAV)), ?_, by simp [hlt], fun j hj => List.getElem?_set_ne (by omega)⟩
    have hg : rowGet (.row 88 (c.map cellAV)) [i] = some (c[i].map U8) := by simp [rowGet, objGet, getP, cellAV, hi]
    have hs : rowSet ((w.2.take part ++ c[i].drop part).map U8) (.row 88 (c.map cellAV)) [i] = some (.row 88 ((c.set i (w.2.take part ++ c[i].drop part)).map cellAV)) := by
      simp [rowSet, objGet, getP, objSet, setP, cellAV, hi, List.map_set]
    simp only [aCpy, td22, tu5, hsrc, aCopy, hr, hg]
    simp only [if_true, Nat.zero_add, List.length_map, hc, hp, hl, Nat.min_self, List.take_zero, List.nil_append]
    rw [show ((w.2.take part).map U8).take part ++ (c[i].map U8).drop part = (w.2.take part ++ c[i].drop part).map U8 from by
      rw [List.map_append, List.map_drop, List.take_of_length_le (by rw [List.length_map]; omega)], hs]
  · obtain rfl : part = 0 := by omega
    refine ⟨.int .i64 0, H, by simp [aCpy, srcElems], ?_, fun _ _ => rfl⟩
    rw [hr]
    simp
theorem crash_loop {S : Obs} {h0 : Heap} {p r nL : Nat} {y : AV} {L : List (Nat × List UInt8)} {f : Int} {w : Bool} (hy : Ap 90 S h0 y (L.map writeAV)) (hL : L.length < 2 ^ 30)
    (hws : ∀ w ∈ L, w.1 < nL ∧ w.2.length = 64) (hs : nL ≠ 0 → S r) (KK : Nat) (hK : KK < 2 ^ 64) (torn at' : Int) (call : CallF) (N : Nat) (md : Bool) :
    ∀ (m i n : Nat) (h : Heap) (c : List (List UInt8)), i + m = L.length → m < n → Up S h → h[p]? = some (dv r nL y f w) → c.length = nL → (∀ b ∈ c, b.length = 64) → (nL ≠ 0 → h[r]? = some (.row 88 (c.map cellAV))) →
    ∃ h', (∀ K : Ex → List AV → Heap → Option (AV × Heap), loopK (fun next => runK C0 call md 25 N B25_1 (seqE next K)) n (st 69 [(0, dp p), (1, .int .u64 KK), (2, .int .i64 torn), (3, .int .i64 at'), (16, y), (17, .int .i64 L.length), (18, .int .i64 i)]) h =
      K (.exit 0) (st 69 [(0, dp p), (1, .int .u64 KK), (2, .int .i64 torn), (3, .int .i64 at'), (16, y), (17, .int .i64 L.length), (18, .int .i64 L.length), (19, .bool false)]) h') ∧
      h'[p]? = some (dv r nL y f w) ∧ (nL ≠ 0 → h'[r]? = some (.row 88 ((crashed KK torn at' i c (L.drop i)).map cellAV))) ∧ Keep S h h' := by
  intro m
  induction m with
  | zero =>
    intro i n h c hi hn up hp hcl hcc hr
    obtain ⟨n, rfl⟩ : ∃ j, n = j + 1 := ⟨n - 1, by omega⟩
    obtain rfl : i = L.length := by omega
    refine ⟨h, fun K => ?_, hp, by rw [List.drop_length]; exact hr, Keep.refl _ _⟩
    rw [loopK_succ]
    generalize loopK (_ : (List AV → Heap → Option (AV × Heap)) → List AV → Heap → Option (AV × Heap)) n = Lp
    have e : decide (((L.length : Nat) : Int) < (L.length : Nat)) = false := decide_eq_false (by omega)
    simp -implicitDefEqProofs only [B25_1, ↓RK, RK, ↓RB, RB, decide_true, decide_false, STs, Nat.reduceBEq, ↓reduceIte, Nat.reduceLT, ↓R25, R25, bin_lss, e]
  | succ m ih =>
    intro i n h c hi hn up hp hcl hcc hr
    obtain ⟨n, rfl⟩ : ∃ j, n = j + 1 := ⟨n - 1, by omega⟩
    have hlt : i < L.length := by omega
    have hw : L[i]? = some L[i] := List.getElem?_eq_getElem hlt
    have hwl := hws _ (List.getElem_mem hlt)
    rw [drop_get hw]
    simp only [crashed]
    have e : decide (((i : Nat) : Int) < (L.length : Nat)) = true := decide_eq_true (by omega)
    have wr : IntKind.i64.wrap ((i : Int) + 1) = ((i + 1 : Nat) : Int) := by rw [wrap_i64] <;> omega
    generalize L[i] = v at *
    have hne : nL ≠ 0 := by omega
    have k1 : Keep (From h.length) h (h ++ [.var 91 (writeAV v)]) := Keep.app h _ (Up.fresh h)
    have hq : (h ++ [.var 91 (writeAV v)])[h.length]? = some (.var 91 (writeAV v)) := by simp
    have hsn := sn91 h v
    have hp1 : (h ++ [.var 91 (writeAV v)])[p]? = some (dv r nL y f w) := by rw [List.getElem?_append_left (List.getElem?_eq_some_iff.1 hp).1]; exact hp
    have hr1 : (h ++ [.var 91 (writeAV v)])[r]? = some (.row 88 (c.map cellAV)) := by rw [List.getElem?_append_left (List.getElem?_eq_some_iff.1 (hr hne)).1]; exact hr hne
    have kk := k1.up up
    have hlen1 : (h ++ [Obj.var 91 (writeAV v)]).length = h.length + 1 := by simp
    generalize h ++ [Obj.var 91 (writeAV v)] = H at *
    have hrp : r ≠ p := by intro e; subst e; rw [hp1] at hr1; cases hr1
    have hvc : v.1 < c.length := by omega
    have hcv : c[v.1].length = 64 := hcc _ (List.getElem_mem hvc)
    have hget : (c[v.1]?).getD [] = c[v.1] := by rw [List.getElem?_eq_getElem hvc]; rfl
    -- the next step, whatever the world is then
    have next : ∀ (H' : Heap), H'.length = H.length → H'[r]? = some (.row 88 ((crashStep KK torn at' i c v).map cellAV)) → (∀ j, j ≠ r → H'[j]? = H[j]?) →
        ∃ h', (∀ K : Ex → List AV → Heap → Option (AV × Heap), loopK (fun next => runK C0 call md 25 N B25_1 (seqE next K)) n (st 69 [(0, dp p), (1, .int .u64 KK), (2, .int .i64 torn), (3, .int .i64 at'), (16, y), (17, .int .i64 L.length), (18, .int .i64 ((i + 1 : Nat) : Int))]) H' =
          K (.exit 0) (st 69 [(0, dp p), (1, .int .u64 KK), (2, .int .i64 torn), (3, .int .i64 at'), (16, y), (17, .int .i64 L.length), (18, .int .i64 L.length), (19, .bool false)]) h') ∧
          h'[p]? = some (dv r nL y f w) ∧ (nL ≠ 0 → h'[r]? = some (.row 88 ((crashed KK torn at' (i + 1) (crashStep KK torn at' i c v) (L.drop (i + 1))).map cellAV))) ∧ Keep S h h' := by
      intro H' hl' hr' ho'
      have k2 : Keep S H H' := ⟨by omega, fun j hj => ho' j (by rintro rfl; exact hj (hs hne))⟩
      obtain ⟨h', g1, g2, g3, g4⟩ := ih (i + 1) n H' (crashStep KK torn at' i c v) (by omega) (by omega) ((up.keep kk).keep k2) (by rw [ho' p (fun e => hrp e.symm)]; exact hp1)
        (by rw [crashStep_length]; exact hcl) (crashStep_cells KK torn at' i c v hcc hwl.2 hvc) (fun _ => hr')
      exact ⟨h', g1, g2, g3, (kk.trans k2).trans g4⟩
    have mx : (if (64 : Int) < (if at' < 0 then 0 else at') then 64 else (if at' < 0 then 0 else at')) = ((partOf at' : Nat) : Int) := by unfold partOf; split <;> split <;> omega
    by_cases ht : (i : Int) = torn
    · have e1 : decide ((i : Int) = torn) = true := decide_eq_true ht
      obtain ⟨u, H', cp, hr', ho'⟩ := cpy_part (partOf_le at') hr1 hq hvc hcv hwl.2
      have hcs : crashStep KK torn at' i c v = c.set v.1 (v.2.take (partOf at') ++ c[v.1].drop (partOf at')) := by unfold crashStep; rw [if_pos ht, hget]
      have hl' : H'.length = H.length := by
        have hc := cp
        unfold aCpy at hc
        simp only [td22, tu5] at hc
        by_cases hpt : 0 < partOf at'
        · rw [if_pos hpt] at hc
          simp only [if_true] at hc
          split at hc
          · unfold aCopy at hc
            simp only [hr1] at hc
            split at hc
            · split at hc
              · split at hc
                · cases hc; simp
                · cases hc
              · cases hc
            · cases hc
          · cases hc
        · rw [if_neg hpt] at hc
          simp only [if_true] at hc
          split at hc
          · cases hc; rfl
          · cases hc
      obtain ⟨h', g1, g2, g3, g4⟩ := next H' hl' (by rw [hcs]; exact hr') ho'
      refine ⟨h', fun K => ?_, g2, g3, g4⟩
      rw [loopK_succ, ← g1 K]
      generalize loopK (_ : (List AV → Heap → Option (AV × Heap)) → List AV → Heap → Option (AV × Heap)) n = Lp
      simp -implicitDefEqProofs only [B25_1, ↓RK, RK, ↓RB, RB, decide_true, decide_false, STs, Nat.reduceBEq, ↓reduceIte, Nat.reduceLT, ↓R25, R25, bin_lss, e, idx82 hy hw, load91v, alloc91, hsn, bin_eql, e1, max2_i64, min2_i64, mx, dp_chk, dpf0, dld0 hp1, fa91_0, wld0 hq, fa91_1, idx81 r _ v.1 hwl.1, sl89_to _ _ _ (partOf_le at'), cp, bin_add, wr]
    · have e1 : decide ((i : Int) = torn) = false := decide_eq_false ht
      have hb : KK / 2 ^ (i % 64) < 2 ^ 64 := Nat.lt_of_le_of_lt (Nat.div_le_self _ _) hK
      by_cases hk : KK / 2 ^ (i % 64) % 2 = 1
      · have e2 : decide (((KK / 2 ^ (i % 64) % 2 : Nat) : Int) = 1) = true := decide_eq_true (by omega)
        have sc := store_cell (c := v.2) hr1 hvc
        have hcs : crashStep KK torn at' i c v = c.set v.1 v.2 := by unfold crashStep; rw [if_neg ht, if_pos hk]
        obtain ⟨h', g1, g2, g3, g4⟩ := next (H.set r (.row 88 ((c.set v.1 v.2).map cellAV))) (by simp) (by rw [hcs]; simp [(List.getElem?_eq_some_iff.1 hr1).1]) (fun j hj => List.getElem?_set_ne (by omega))
        refine ⟨h', fun K => ?_, g2, g3, g4⟩
        rw [loopK_succ, ← g1 K]
        generalize loopK (_ : (List AV → Heap → Option (AV × Heap)) → List AV → Heap → Option (AV × Heap)) n = Lp
        simp -implicitDefEqProofs only [B25_1, ↓RK, RK, ↓RB, RB, decide_true, decide_false, STs, Nat.reduceBEq, ↓reduceIte, Nat.reduceLT, ↓R25, R25, bin_lss, e, idx82 hy hw, load91v, alloc91, hsn, bin_eql, e1, rem_64 i (by omega), shr_64 KK (i % 64) (by omega), and_64 _ hb, e2, dp_chk, dpf0, dld0 hp1, fa91_0, wld0 hq, fa91_1, wld1 hq, idx81 r _ v.1 hwl.1, sc, bin_add, wr]
      · have e2 : decide (((KK / 2 ^ (i % 64) % 2 : Nat) : Int) = 1) = false := decide_eq_false (by omega)
        have hcs : crashStep KK torn at' i c v = c := by unfold crashStep; rw [if_neg ht, if_neg hk]
        obtain ⟨h', g1, g2, g3, g4⟩ := next H rfl (by rw [hcs]; exact hr1) (fun _ _ => rfl)
        refine ⟨h', fun K => ?_, g2, g3, g4⟩
        rw [loopK_succ, ← g1 K]
        generalize loopK (_ : (List AV → Heap → Option (AV × Heap)) → List AV → Heap → Option (AV × Heap)) n = Lp
        simp -implicitDefEqProofs only [B25_1, ↓RK, RK, ↓RB, RB, decide_true, decide_false, STs, Nat.reduceBEq, ↓reduceIte, Nat.reduceLT, ↓R25, R25, bin_lss, e, idx82 hy hw, load91v, alloc91, hsn, bin_eql, e1, rem_64 i (by omega), shr_64 KK (i % 64) (by omega), and_64 _ hb, e2, bin_add, wr]
theorem crash_ok {S : Obs} {p r : Nat} {h : Heap} {d : Dk} (D : Dsk S h p r d) (up : Up S h) (hl : d.loose.length < 2 ^ 30) (KK : Nat) (hK : KK < 2 ^ 64) (torn at' : Int) (md : Bool) (k : Nat) (hk : d.loose.length < k) :
    ∃ h', exFn C0 E0 (k + 1) md 25 [dp p, .int .u64 KK, .int .i64 torn, .int .i64 at'] h = some (.tuple [], h') ∧ Dsk S h' p r (d.crash KK torn at') ∧ Keep S h h' := by
  obtain ⟨x, hx, ha⟩ := D.var
  have n0 : ([dp p, .int .u64 KK, .int .i64 torn, .int .i64 at'] ++ List.replicate (69 - [dp p, AV.int .u64 KK, .int .i64 torn, .int .i64 at'].length) AV.undef) = st 69 [(0, dp p), (1, .int .u64 KK), (2, .int .i64 torn), (3, .int .i64 at')] := rfl
  have hlen := len82 ha
  rw [List.length_map] at hlen
  have hz : ∀ {l : List (List UInt8)}, l.length ≠ 0 → l ≠ [] := fun h e => h (by rw [e]; rfl)
  obtain ⟨h1, f1, f2, f3, f4⟩ := crash_loop (f := d.fuse) (w := d.down) ha hl D.loose (fun h => D.hr (hz h)) KK hK torn at' (exFn C0 E0 k) k md d.loose.length 0 k h d.lasts (by omega) hk up hx rfl D.cells (fun h => D.row (hz h))
  rw [show ((0 : Nat) : Int) = 0 from rfl] at f1
  have hlt : p < h1.length := (List.getElem?_eq_some_iff.1 f2).1
  have hx1 : (h1.set p (dv r d.lasts.length .nils d.fuse d.down))[p]? = some (dv r d.lasts.length .nils d.fuse d.down) := by simp [hlt]
  have hx2 : (h1.set p (dv r d.lasts.length .nils (-1) d.down))[p]? = some (dv r d.lasts.length .nils (-1) d.down) := by simp [hlt]
  have t1 := dst1 f2 (y := .nils) rfl
  have t2 := dst2 hx1 (-1)
  rw [List.set_set] at t2
  have t3 := dst3 hx2 false
  rw [List.set_set] at t3
  have hcl : (crashed KK torn at' 0 d.lasts d.loose).length = d.lasts.length := crashed_length _ _ _ _ _ _
  have hcells : ∀ (ws : List (Nat × List UInt8)) (k : Nat) (l : List (List UInt8)), l.length = d.lasts.length → (∀ b ∈ l, b.length = 64) → (∀ w ∈ ws, w.1 < d.lasts.length ∧ w.2.length = 64) → ∀ b ∈ crashed KK torn at' k l ws, b.length = 64 := by
    intro ws
    induction ws with
    | nil => intro k l _ h _; exact h
    | cons w ws ih =>
      intro k l e h hw
      have h0 := hw w List.mem_cons_self
      exact ih (k + 1) _ (by rw [crashStep_length]; exact e) (crashStep_cells KK torn at' k l w h h0.2 (by omega)) fun v hv => hw v (List.mem_cons_of_mem _ hv)
  refine ⟨h1.set p (dv r d.lasts.length .nils (-1) false), exFn_of e25 ?_, ?_, f4.trans (Keep.set h1 _ D.hp)⟩
  · rw [fnK, n0, s25]
    simp -implicitDefEqProofs only [↓RK, RK, ↓RB, RB, decide_true, decide_false, STs, Nat.reduceBEq, ↓reduceIte, Nat.reduceLT, ↓R25, R25, dp_nil, dp_chk, dpf1, dld1 hx, hlen]
    rw [f1]
    simp -implicitDefEqProofs only [↓RK, RK, ↓RB, RB, decide_true, decide_false, STs, Nat.reduceBEq, ↓reduceIte, Nat.reduceLT, ↓R25, R25, dp_chk, dpf1, dpf2, dpf3, t1, t2, t3, results0]
  · refine ⟨D.hp, fun hne => D.hr (hz (by rw [← hcl]; intro e; exact hne (List.eq_nil_of_length_eq_zero e))), ⟨.nils, ?_, .inl ⟨rfl, rfl⟩⟩, fun hne => ?_, hcells _ _ _ rfl D.cells D.loose, fun w hw => (List.not_mem_nil hw).elim, by show (crashed KK torn at' 0 d.lasts d.loose).length ≤ 1024; rw [hcl]; exact D.few⟩
    · show (h1.set p (dv r d.lasts.length .nils (-1) false))[p]? = some (dv r (crashed KK torn at' 0 d.lasts d.loose).length .nils (-1) false)
      rw [hcl, List.getElem?_set_self hlt]
    · have hne' : d.lasts.length ≠ 0 := by rw [← hcl]; intro e; exact hne (List.eq_nil_of_length_eq_zero e)
      have hr := f3 hne'
      rw [List.getElem?_set_ne]
      · exact hr
      · intro e
        subst e
        rw [f2] at hr
        cases hr
end Go.Ax

set_option linter.unusedVariables false
namespace Go.Ax
open Go Go.Proofs
noncomputable def O19 (i : Nat) : Array Oper := opsOf i (bodyOf Try.f19)
noncomputable def B19_1 : Code := (.seq (.seq (.region 3 (O19 3) false) (.cond (Go.Operand.tmp 19) .skip (.exit 0))) (.seq (.block 1 (.seq (.region 5 (O19 5) false) (.seq (.region 6 (O19 6) false) (.cond (Go.Operand.tmp 30) (.seq (.seq (.region 7 (O19 7) false) (.seq (.region 8 (O19 8) false) (.cond (Go.Operand.tmp 35) (.seq (.region 9 (O19 9) false) .ret) .skip))) (.region 10 (O19 10) false)) .skip)))) (.region 4 (O19 4) false)))
theorem s19 : bodyOf Try.f19 = (.seq (.region 0 (O19 0) false) (.seq (.region 1 (O19 1) false) (.seq (.seq (.region 2 (O19 2) false) (.block 0 (.loop B19_1))) (.seq (.seq (.region 11 (O19 11) false) (.cond (Go.Operand.tmp 38) (.seq (.region 12 (O19 12) false) .ret) .skip)) (.seq (.region 13 (O19 13) false) .ret))))) := by kernel_rfl
theorem e19 : E0 19 = some ⟨41, [6], bodyOf Try.f19⟩ := by kernel_rfl
theorem r19_0 (x0 x1 x2 : AV) : RR O19 19 41 0 false [(0, x0), (1, x1), (2, x2)] fun _ call md k h =>
 k .normal (st 41 [(0, x0), (1, x1), (2, x2)]) h
 := fun _ _ _ _ _ _ => by kernel_rfl
theorem r19_1 (x0 x1 x2 : AV) : RR O19 19 41 1 false [(0, x0), (1, x1), (2, x2)] fun _ call md k h =>
 k .normal (st 41 [(0, x0), (1, x1), (2, x2), (7, (.bool false))]) h
 := fun _ _ _ _ _ _ => by kernel_rfl
theorem r19_2 (x0 x1 x2 x7 : AV) : RR O19 19 41 2 false [(0, x0), (1, x1), (2, x2), (7, x7)] fun _ call md k h =>
 bnd (aMax [x1, (.int .i64 0)]) fun v1 =>
 k .normal (st 41 [(0, x0), (2, x2), (7, x7), (8, v1)]) h
 := fun _ _ _ _ _ _ => by kernel_rfl
theorem r19_3 (x0 x2 x7 x8 : AV) : RR O19 19 41 3 false [(0, x0), (2, x2), (7, x7), (8, x8)] fun _ call md k h =>
 bnd2 (call md 46 [x0] h) fun v1 h2 =>
 bnd (aMin [x2, v1]) fun v3 =>
 bnd (aBinC tab .lss 3 x8 v3 false) fun v4 =>
 k .normal (st 41 [(0, x0), (2, x2), (7, x7), (8, x8), (19, v4)]) h2
 := fun _ _ _ _ _ _ => by kernel_rfl
theorem r19_4a (x0 x2 x7 x8 x30 : AV) : RR O19 19 41 4 false [(0, x0), (2, x2), (7, x7), (8, x8), (30, x30)] fun _ call md k h =>
 bnd (aBinC tab .add 3 x8 (.int .i64 1) true) fun v1 =>
 k .normal (st 41 [(0, x0), (2, x2), (7, x7), (8, v1)]) h
 := fun _ _ _ _ _ _ => by kernel_rfl
theorem r19_4b (x0 x2 x7 x8 : AV) : RR O19 19 41 4 false [(0, x0), (2, x2), (7, x7), (8, x8)] fun _ call md k h =>
 bnd (aBinC tab .add 3 x8 (.int .i64 1) true) fun v1 =>
 k .normal (st 41 [(0, x0), (2, x2), (7, x7), (8, v1)]) h
 := fun _ _ _ _ _ _ => by kernel_rfl
theorem r19_5 (x0 x2 x7 x8 x19 : AV) : RR O19 19 41 5 false [(0, x0), (2, x2), (7, x7), (8, x8), (19, x19)] fun _ call md k h =>
 bnd2 (call md 38 [x0, x8] h) fun v1 h2 =>
 bnd (aExtract v1 0) fun v3 =>
 bnd (aExtract v1 1) fun v4 =>
 k .normal (st 41 [(0, x0), (2, x2), (7, x7), (8, x8), (9, v3)]) h2
 := fun _ _ _ _ _ _ => by kernel_rfl
theorem r19_6 (x0 x2 x7 x8 x9 : AV) : RR O19 19 41 6 false [(0, x0), (2, x2), (7, x7), (8, x8), (9, x9)] fun _ call md k h =>
 bnd2 (call md 51 [x9] h) fun v1 h2 =>
 bnd (aUn .not v1) fun v3 =>
 k .normal (st 41 [(0, x0), (2, x2), (7, x7), (8, x8), (30, v3)]) h2
 := fun _ _ _ _ _ _ => by kernel_rfl
theorem r19_7 (x0 x2 x7 x8 x30 : AV) : RR O19 19 41 7 false [(0, x0), (2, x2), (7, x7), (8, x8), (30, x30)] fun _ call md k h =>
 bnd2 (call md 17 [x0, x8, .nils] h) fun v1 h2 =>
 k .normal (st 41 [(0, x0), (2, x2), (8, x8), (11, v1)]) h2
 := fun _ _ _ _ _ _ => by kernel_rfl
theorem r19_8 (x0 x2 x8 x11 : AV) : RR O19 19 41 8 false [(0, x0), (2, x2), (8, x8), (11, x11)] fun _ call md k h =>
 bnd (aBinC tab .neq 27 x11 (.int .i64 0) true) fun v1 =>
 k .normal (st 41 [(0, x0), (2, x2), (8, x8), (11, x11), (35, v1)]) h
 := fun _ _ _ _ _ _ => by kernel_rfl
theorem r19_9 (x0 x2 x8 x11 x35 : AV) : RR O19 19 41 9 false [(0, x0), (2, x2), (8, x8), (11, x11), (35, x35)] fun _ call md k h =>
 k .normal (st 41 [(6, x11)]) h
 := fun _ _ _ _ _ _ => by kernel_rfl
theorem r19_10 (x0 x2 x8 x11 x35 : AV) : RR O19 19 41 10 false [(0, x0), (2, x2), (8, x8), (11, x11), (35, x35)] fun _ call md k h =>
 k .normal (st 41 [(0, x0), (2, x2), (7, (.bool true)), (8, x8)]) h
 := fun _ _ _ _ _ _ => by kernel_rfl
theorem r19_11 (x0 x2 x7 x8 x19 : AV) : RR O19 19 41 11 false [(0, x0), (2, x2), (7, x7), (8, x8), (19, x19)] fun _ call md k h =>
 bnd (aUn .not x7) fun v1 =>
 k .normal (st 41 [(0, x0), (38, v1)]) h
 := fun _ _ _ _ _ _ => by kernel_rfl
theorem r19_12 (x0 x38 : AV) : RR O19 19 41 12 false [(0, x0), (38, x38)] fun _ call md k h =>
 k .normal (st 41 [(6, (.int .i64 0))]) h
 := fun _ _ _ _ _ _ => by kernel_rfl
theorem r19_13 (x0 x38 : AV) : RR O19 19 41 13 false [(0, x0), (38, x38)] fun _ call md k h =>
 bnd2 (call md 18 [x0] h) fun v1 h2 =>
 k .normal (st 41 [(6, v1)]) h2
 := fun _ _ _ _ _ _ => by kernel_rfl
def R19 := And.intro @r19_0 <| And.intro @r19_1 <| And.intro @r19_2 <| And.intro @r19_3 <| And.intro @r19_4a <| And.intro @r19_4b <| And.intro @r19_5 <| And.intro @r19_6 <| And.intro @r19_7 <| And.intro @r19_8 <| And.intro @r19_9 <| And.intro @r19_10 <| And.intro @r19_11 <| And.intro @r19_12 <| @r19_13
end Go.Ax

set_option linter.unusedVariables false
namespace Go.Ax
open Go Go.Proofs
noncomputable def O21 (i : Nat) : Array Oper := opsOf i (bodyOf Try.f21)
theorem s21 : bodyOf Try.f21 = (.seq (.region 0 (O21 0) false) (.seq (.region 1 (O21 1) false) (.seq (.region 2 (O21 2) false) (.seq (.region 3 (O21 3) false) .ret)))) := by kernel_rfl
theorem e21 : E0 21 = some ⟨9, [2], bodyOf Try.f21⟩ := by kernel_rfl
theorem r21_0 (x0 : AV) : RR O21 21 9 0 false [(0, x0)] fun _ call md k h =>
 bnd2 (freezeA .nils h) fun v1 h2 =>
 k .normal (st 9 [(0, x0)]) h2
 := fun _ _ _ _ _ _ => by kernel_rfl
theorem r21_1 (x0 : AV) : RR O21 21 9 1 false [(0, x0)] fun _ call md k h =>
 bnd2 (aMake tab 22 (.int .i64 64) (.int .i64 64) h) fun v1 h2 =>
 k .normal (st 9 [(0, x0), (3, v1)]) h2
 := fun _ _ _ _ _ _ => by kernel_rfl
theorem r21_2 (x0 x3 : AV) : RR O21 21 9 2 false [(0, x0), (3, x3)] fun _ call md k h =>
 bnd2 (aCpy tab 22 x3 x0 h) fun v1 h2 =>
 k .normal (st 9 [(3, x3)]) h2
 := fun _ _ _ _ _ _ => by kernel_rfl
theorem r21_3 (x3 : AV) : RR O21 21 9 3 false [(3, x3)] fun _ call md k h =>
 bnd2 (freezeA x3 h) fun v1 h2 =>
 k .normal (st 9 [(2, v1)]) h2
 := fun _ _ _ _ _ _ => by kernel_rfl
def R21 := And.intro @r21_0 <| And.intro @r21_1 <| And.intro @r21_2 <| @r21_3
end Go.Ax

namespace Go.Ax
open Go Go.Proofs
theorem make22 (h : Heap) : aMake tab 22 (.int .i64 64) (.int .i64 64) h = some (.msl h.length [] 5 0 64, h ++ [.row 5 ((List.replicate 64 (0 : UInt8)).map U8)]) := by kernel_rfl
theorem cpy_row {h : Heap} {x : AV} {l c : List UInt8} (hx : srcElems tab 5 (h ++ [.row 5 (c.map U8)]) x = some (l.map U8)) (hc : c.length = 64) (hl : l.length ≤ 64) :
    aCpy tab 22 (.msl h.length [] 5 0 64) x (h ++ [.row 5 (c.map U8)]) = some (.int .i64 l.length, h ++ [.row 5 ((l ++ c.drop l.length).map U8)]) := by
  simp only [aCpy, td22, tu5, hx, aCopy]
  have e : (l.map U8).take l.length = l.map U8 := List.take_of_length_le (by simp)
  simp [rowGet, rowSet, hc, Nat.min_eq_left hl, e]
theorem frz_row (h : Heap) (c : List UInt8) (hc : c.length = 64) : freezeA (.msl h.length [] 5 0 64) (h ++ [.row 5 (c.map U8)]) = some (.vsl 5 (c.map U8) .none, h ++ [.dead]) := by
  have e : (c.map U8).take 64 = c.map U8 := List.take_of_length_le (by simp [hc])
  simp [freezeA, hc, e]
theorem frz_nils (h : Heap) : freezeA .nils h = some (.nils, h) := rfl
theorem fill_ok {U : Obs} {h : Heap} {x : AV} {b : List UInt8} (hb : By U h x b) (hl : b.length ≤ 64) (k : Nat) :
    ∃ h', exFn C0 E0 (k + 1) false 21 [x] h = some (.vsl 5 ((pad b).map U8) .none, h') ∧ Keep (From h.length) h h' := by
  have n0 : ([x] ++ List.replicate (9 - [x].length) AV.undef) = st 9 [(0, x)] := rfl
  have k1 : Keep (From h.length) h (h ++ [.row 5 ((List.replicate 64 (0 : UInt8)).map U8)]) := Keep.app h _ (Up.fresh h)
  have b1 := hb.keep k1 fun i hi _ hj => Nat.not_le.2 hi hj
  have cp := cpy_row b1.src (by simp) hl
  rw [drop_rep, show b ++ List.replicate (64 - b.length) (0 : UInt8) = pad b from rfl] at cp
  refine ⟨h ++ [.dead], exFn_of e21 ?_, Keep.app h _ (Up.fresh h)⟩
  rw [fnK, n0, s21]
  simp -implicitDefEqProofs only [↓RK, RK, ↓RB, RB, decide_true, decide_false, STs, Nat.reduceBEq, ↓reduceIte, Nat.reduceLT, ↓R21, R21, frz_nils, make22, cp, frz_row h (pad b) (by simp [pad]; omega)]
def cleanLoop : Nat → Nat → Bool → Dk → Int × Bool × Dk
  | 0, _, s, d => (0, s, d)
  | m + 1, i, s, d =>
    if ((d.now[i]?).getD []).all (· == 0) then cleanLoop m (i + 1) s d
    else if (d.write i []).1 = 0 then cleanLoop m (i + 1) true (d.write i []).2
    else ((d.write i []).1, s, (d.write i []).2)
theorem cleanLoop_zero (i : Nat) (s : Bool) (d : Dk) : cleanLoop 0 i s d = (0, s, d) := rfl
theorem cleanLoop_blank {m i : Nat} {s : Bool} {d : Dk} (h : ((d.now[i]?).getD []).all (· == 0) = true) : cleanLoop (m + 1) i s d = cleanLoop m (i + 1) s d := if_pos h
theorem cleanLoop_go {m i : Nat} {s : Bool} {d : Dk} (h : ((d.now[i]?).getD []).all (· == 0) = false) (h2 : (d.write i []).1 = 0) : cleanLoop (m + 1) i s d = cleanLoop m (i + 1) true (d.write i []).2 := by
  rw [cleanLoop, if_neg (by simp [h]), if_pos h2]
theorem cleanLoop_no {m i : Nat} {s : Bool} {d : Dk} (h : ((d.now[i]?).getD []).all (· == 0) = false) (h2 : (d.write i []).1 ≠ 0) : cleanLoop (m + 1) i s d = ((d.write i []).1, s, (d.write i []).2) := by
  rw [cleanLoop, if_neg (by simp [h]), if_neg h2]
theorem cleanLoop_loose : ∀ (m i : Nat) (s : Bool) (d : Dk), (cleanLoop m i s d).2.2.loose.length ≤ d.loose.length + m ∧ (cleanLoop m i s d).2.2.fuse ≤ d.fuse ∧ (cleanLoop m i s d).2.2.lasts.length = d.lasts.length := by
  intro m
  induction m with
  | zero => intro i s d; simp [cleanLoop]
  | succ m ih =>
    intro i s d
    cases hz : ((d.now[i]?).getD []).all (· == 0)
    · by_cases hw : (d.write i []).1 = 0
      · rw [cleanLoop_go hz hw]
        have := ih (i + 1) true (d.write i []).2
        have h1 := write_loose d i []
        have h2 := write_fuse d i []
        have h3 := write_len d i []
        omega
      · rw [cleanLoop_no hz hw]
        have h1 := write_loose d i []
        have h2 := write_fuse d i []
        have h3 := write_len d i []
        simp only
        omega
    · rw [cleanLoop_blank hz]
      have := ih (i + 1) s d
      omega
theorem clean_loop {S : Obs} {p r : Nat} (e : Int) (N : Nat) :
    ∀ (m i n : Nat) (s : Bool) (d : Dk) (h : Heap), m = (min e d.lasts.length - i).toNat → m < n → Up S h → Dsk S h p r d → d.loose.length + m < 2 ^ 29 → d.loose.length + m + 10 < N → d.fuse < 2 ^ 63 →
    ∃ h' j, (∀ K : Ex → List AV → Heap → Option (AV × Heap), loopK (fun next => runK C0 (exFn C0 E0 (N + 3)) false 19 (N + 3) B19_1 (seqE next K)) n (st 41 [(0, dp p), (2, .int .i64 e), (7, .bool s), (8, .int .i64 i)]) h =
      if (cleanLoop m i s d).1 = 0 then K (.exit 0) (st 41 [(0, dp p), (2, .int .i64 e), (7, .bool (cleanLoop m i s d).2.1), (8, j), (19, .bool false)]) h'
      else K .ret (st 41 [(6, .int .i64 (cleanLoop m i s d).1)]) h') ∧
      Dsk S h' p r (cleanLoop m i s d).2.2 ∧ Keep S h h' := by
  intro m
  induction m with
  | zero =>
    intro i n s d h hm hn up D hl hN hf
    obtain ⟨n, rfl⟩ : ∃ j, n = j + 1 := ⟨n - 1, by omega⟩
    rw [cleanLoop_zero]
    refine ⟨h, .int .i64 i, fun K => ?_, D, Keep.refl _ _⟩
    rw [if_pos rfl, loopK_succ]
    generalize loopK (_ : (List AV → Heap → Option (AV × Heap)) → List AV → Heap → Option (AV × Heap)) n = Lp
    have lk := len_ok D false (N + 2)
    have e1 : decide ((i : Int) < (if ((d.lasts.length : Nat) : Int) < e then ((d.lasts.length : Nat) : Int) else e)) = false := decide_eq_false (by split <;> omega)
    simp -implicitDefEqProofs only [B19_1, ↓RK, RK, ↓RB, RB, decide_true, decide_false, STs, Nat.reduceBEq, ↓reduceIte, Nat.reduceLT, ↓R19, R19, lk, min2_i64, bin_lss, e1]
  | succ m ih =>
    intro i n s d h hm hn up D hl hN hf
    obtain ⟨n, rfl⟩ : ∃ j, n = j + 1 := ⟨n - 1, by omega⟩
    have hfew := D.few
    have lk := len_ok D false (N + 2)
    have e1 : decide ((i : Int) < (if ((d.lasts.length : Nat) : Int) < e then ((d.lasts.length : Nat) : Int) else e)) = true := decide_eq_true (by split <;> omega)
    have hlt : i < d.now.length := by rw [D.now_length]; omega
    have wr : IntKind.i64.wrap ((i : Int) + 1) = ((i + 1 : Nat) : Int) := by rw [wrap_i64] <;> omega
    obtain ⟨y, h1, r1, r2, r3⟩ := read_ok D (by omega) (i : Int) (N + 2) (by omega)
    have hrd : d.read (i : Int) = ((d.now[i]?).getD [], 0) := by
      unfold Dk.read
      rw [if_pos ⟨by omega, by rw [D.now_length] at hlt; omega⟩, Int.toNat_natCast]
    rw [hrd] at r1 r2
    have bs : Bs y ((d.now[i]?).getD []) := r2.bs
    have D1 := D.fresh r3
    have up1 := up.keep r3
    have z1 := zero_ok bs false h1 N
    cases hz : ((d.now[i]?).getD []).all (· == 0)
    · rw [hz] at z1
      obtain ⟨h2, w1, D2, k2⟩ := write_ok D1 up1 (i : Int) (x := .nils) (b := []) (U := fun _ => False) (.inl (.inl ⟨rfl, rfl⟩)) (fun _ _ h => h.elim) (by omega) hf N
      have a1 := write_loose d i []
      have a2 := write_fuse d i []
      have a3 := write_len d i []
      have kk := (r3.up up).trans k2
      by_cases hw : (d.write i []).1 = 0
      · rw [cleanLoop_go hz hw]
        obtain ⟨h3, j, g1, g2, g3⟩ := ih (i + 1) n true _ h2 (by omega) (by omega) (up1.keep k2) D2 (by omega) (by omega) (by omega)
        refine ⟨h3, j, fun K => ?_, g2, kk.trans g3⟩
        rw [loopK_succ, ← g1 K]
        generalize loopK (_ : (List AV → Heap → Option (AV × Heap)) → List AV → Heap → Option (AV × Heap)) n = Lp
        rw [hw] at w1
        have c0 : decide ((0 : Int) ≠ 0) = false := by decide
        simp -implicitDefEqProofs only [B19_1, ↓RK, RK, ↓RB, RB, decide_true, decide_false, STs, Nat.reduceBEq, ↓reduceIte, Nat.reduceLT, ↓R19, R19, lk, min2_i64, bin_lss, e1, r1, ext0, ext1, z1, un_not, Bool.not_false, w1, neq27, c0, bin_add, wr]
      · rw [cleanLoop_no hz hw]
        refine ⟨h2, .undef, fun K => ?_, D2, kk⟩
        rw [if_neg hw, loopK_succ]
        generalize loopK (_ : (List AV → Heap → Option (AV × Heap)) → List AV → Heap → Option (AV × Heap)) n = Lp
        have c0 : decide ((d.write (i : Int) []).1 ≠ 0) = true := decide_eq_true hw
        simp -implicitDefEqProofs only [B19_1, ↓RK, RK, ↓RB, RB, decide_true, decide_false, STs, Nat.reduceBEq, ↓reduceIte, Nat.reduceLT, ↓R19, R19, lk, min2_i64, bin_lss, e1, r1, ext0, ext1, z1, un_not, Bool.not_false, w1, neq27, c0]
    · rw [hz] at z1
      rw [cleanLoop_blank hz]
      obtain ⟨h3, j, g1, g2, g3⟩ := ih (i + 1) n s d h1 (by omega) (by omega) up1 D1 (by omega) (by omega) hf
      refine ⟨h3, j, fun K => ?_, g2, (r3.up up).trans g3⟩
      rw [loopK_succ, ← g1 K]
      generalize loopK (_ : (List AV → Heap → Option (AV × Heap)) → List AV → Heap → Option (AV × Heap)) n = Lp
      simp -implicitDefEqProofs only [B19_1, ↓RK, RK, ↓RB, RB, decide_true, decide_false, STs, Nat.reduceBEq, ↓reduceIte, Nat.reduceLT, ↓R19, R19, lk, min2_i64, bin_lss, e1, r1, ext0, ext1, z1, un_not, Bool.not_true, bin_add, wr]
def Dk.clean (d : Dk) (a e : Int) : Int × Dk :=
  let r := cleanLoop (min e d.lasts.length - max a 0).toNat (max a 0).toNat false d
  if r.1 ≠ 0 then (r.1, r.2.2) else if r.2.1 then r.2.2.flush else (0, r.2.2)
theorem clean_ok {S : Obs} {p r : Nat} {h : Heap} {d : Dk} (D : Dsk S h p r d) (up : Up S h) (hl : d.loose.length < 2 ^ 28) (hf : d.fuse < 2 ^ 63) (a e : Int) (k : Nat) (hk : d.loose.length + 9000 < k) :
    ∃ h', exFn C0 E0 (k + 1) false 19 [dp p, .int .i64 a, .int .i64 e] h = some (.int .i64 (d.clean a e).1, h') ∧ Dsk S h' p r (d.clean a e).2 ∧ Keep S h h' := by
  obtain ⟨k, rfl⟩ : ∃ j, k = j + 3 := ⟨k - 3, by omega⟩
  have hfew := D.few
  have n0 : ([dp p, .int .i64 a, .int .i64 e] ++ List.replicate (41 - [dp p, AV.int .i64 a, .int .i64 e].length) AV.undef) = st 41 [(0, dp p), (1, .int .i64 a), (2, .int .i64 e)] := rfl
  have mx : (if a < 0 then 0 else a) = (((max a 0).toNat : Nat) : Int) := by split <;> omega
  have hcl := cleanLoop_loose (min e d.lasts.length - max a 0).toNat (max a 0).toNat false d
  obtain ⟨h1, j, f1, f2, f3⟩ := clean_loop (S := S) (p := p) (r := r) e k (min e d.lasts.length - max a 0).toNat (max a 0).toNat (k + 3) false d h (by omega) (by omega) up D (by omega) (by omega) hf
  unfold Dk.clean
  generalize hL : cleanLoop (min e d.lasts.length - max a 0).toNat (max a 0).toNat false d = L at *
  obtain ⟨le, ls, ld⟩ := L
  simp only at f1 f2 hcl ⊢
  by_cases z1 : le = 0
  · subst z1
    rw [if_neg (fun h => h rfl)]
    simp only [if_true] at f1
    cases ls
    · rw [if_neg Bool.false_ne_true]
      refine ⟨h1, exFn_of e19 ?_, f2, f3⟩
      rw [fnK, n0, s19]
      simp -implicitDefEqProofs only [↓RK, RK, ↓RB, RB, decide_true, decide_false, STs, Nat.reduceBEq, ↓reduceIte, Nat.reduceLT, ↓R19, R19, max2_i64, mx]
      rw [f1]
      simp -implicitDefEqProofs only [↓RK, RK, ↓RB, RB, decide_true, decide_false, STs, Nat.reduceBEq, ↓reduceIte, Nat.reduceLT, ↓R19, R19, un_not, Bool.not_false]
    · rw [if_pos rfl]
      obtain ⟨h2, g1, g2, g3⟩ := flush_ok f2 (up.keep f3) (by omega) (by omega) false (k + 2) (by omega)
      refine ⟨h2, exFn_of e19 ?_, g2, f3.trans g3⟩
      rw [fnK, n0, s19]
      simp -implicitDefEqProofs only [↓RK, RK, ↓RB, RB, decide_true, decide_false, STs, Nat.reduceBEq, ↓reduceIte, Nat.reduceLT, ↓R19, R19, max2_i64, mx]
      rw [f1]
      simp -implicitDefEqProofs only [↓RK, RK, ↓RB, RB, decide_true, decide_false, STs, Nat.reduceBEq, ↓reduceIte, Nat.reduceLT, ↓R19, R19, un_not, Bool.not_true, g1]
  · rw [if_pos z1]
    refine ⟨h1, exFn_of e19 ?_, f2, f3⟩
    rw [fnK, n0, s19]
    simp -implicitDefEqProofs only [↓RK, RK, ↓RB, RB, decide_true, decide_false, STs, Nat.reduceBEq, ↓reduceIte, Nat.reduceLT, ↓R19, R19, max2_i64, mx]
    rw [f1, if_neg z1]
    simp -implicitDefEqProofs only [↓RK, RK, ↓RB, RB, decide_true, decide_false, STs, Nat.reduceBEq, ↓reduceIte, Nat.reduceLT]
end Go.Ax

set_option linter.unusedVariables false
namespace Go.Ax
open Go Go.Proofs
noncomputable def O54 (i : Nat) : Array Oper := opsOf i (bodyOf Try.f54)
theorem s54 : bodyOf Try.f54 = (.seq (.region 0 (O54 0) false) (.seq (.seq (.region 1 (O54 1) false) (.cond (Go.Operand.tmp 22) (.seq (.region 2 (O54 2) false) .ret) .skip)) (.seq (.seq (.region 3 (O54 3) false) (.cond (Go.Operand.tmp 33) (.seq (.region 4 (O54 4) false) (.seq (.region 5 (O54 5) false) .ret)) .skip)) (.seq (.seq (.region 6 (O54 6) false) (.cond (Go.Operand.tmp 41) (.region 7 (O54 7) false) .skip)) (.seq (.region 8 (O54 8) true) (.seq (.region 9 (O54 9) false) .ret)))))) := by kernel_rfl
theorem e54 : E0 54 = some ⟨62, [6], bodyOf Try.f54⟩ := by kernel_rfl
theorem r54_0 (x0 x1 x2 : AV) : RR O54 54 62 0 false [(0, x0), (1, x1), (2, x2)] fun _ call md k h =>
 k .normal (st 62 [(0, x0), (1, x1), (2, x2)]) h
 := fun _ _ _ _ _ _ => by kernel_rfl
theorem r54_1 (x0 x1 x2 : AV) : RR O54 54 62 1 false [(0, x0), (1, x1), (2, x2)] fun _ call md k h =>
 bnd (aBinC tab .lss 3 x1 (.int .i64 0) true) fun v1 =>
 gd false v1 h (fun k => k x1 h) fun v2 h3 =>
 gd false v1 h3 (fun k => k x0 h3) fun v4 h5 =>
 gd false v1 h5 (fun k => bnd (aNil v4) (k · h5)) fun v6 h7 =>
 gd false v1 h7 (fun k => bnd (aFieldAddr tab 74 v6 0) (k · h7)) fun v8 h9 =>
 gd false v1 h9 (fun k => bnd (aLoad tab 30 v8 h9) (k · h9)) fun v10 h11 =>
 gd false v1 h11 (fun k => bnd (aLen tab 30 v10) (k · h11)) fun v12 h13 =>
 gd false v1 h13 (fun k => bnd (aBinC tab .geq 3 v2 v12 false) (k · h13)) fun v14 h15 =>
 bnd (aPick v1 (.bool true) v14) fun v16 =>
 gd false v16 h15 (fun k => k x2 h15) fun v17 h18 =>
 gd false v16 h18 (fun k => bnd (aLen tab 22 v17) (k · h18)) fun v19 h20 =>
 gd false v16 h20 (fun k => bnd (aBinC tab .gtr 3 v19 (.int .i64 64) true) (k · h20)) fun v21 h22 =>
 bnd (aPick v16 (.bool true) v21) fun v23 =>
 k .normal (st 62 [(0, x0), (1, x1), (2, x2), (22, v23)]) h22
 := fun _ _ _ _ _ _ => by kernel_rfl
theorem r54_2 (x0 x1 x2 x22 : AV) : RR O54 54 62 2 false [(0, x0), (1, x1), (2, x2), (22, x22)] fun _ call md k h =>
 k .normal (st 62 [(6, (.int .i64 1))]) h
 := fun _ _ _ _ _ _ => by kernel_rfl
theorem r54_3 (x0 x1 x2 x22 : AV) : RR O54 54 62 3 false [(0, x0), (1, x1), (2, x2), (22, x22)] fun _ call md k h =>
 bnd (aNil x0) fun v1 =>
 bnd (aFieldAddr tab 74 v1 3) fun v2 =>
 bnd (aLoad tab 4 v2 h) fun v3 =>
 gd false v3 h (fun k => k x0 h) fun v4 h5 =>
 gd false v3 h5 (fun k => bnd (aNil v4) (k · h5)) fun v6 h7 =>
 gd false v3 h7 (fun k => bnd (aFieldAddr tab 74 v6 2) (k · h7)) fun v8 h9 =>
 gd false v3 h9 (fun k => bnd (aLoad tab 3 v8 h9) (k · h9)) fun v10 h11 =>
 gd false v3 h11 (fun k => bnd (aBinC tab .eql 3 v10 (.int .i64 0) true) (k · h11)) fun v12 h13 =>
 bnd (aPick v3 (.bool true) v12) fun v14 =>
 k .normal (st 62 [(0, x0), (1, x1), (2, x2), (33, v14)]) h13
 := fun _ _ _ _ _ _ => by kernel_rfl
theorem r54_4 (x0 x1 x2 x33 : AV) : RR O54 54 62 4 false [(0, x0), (1, x1), (2, x2), (33, x33)] fun _ call md k h =>
 bnd (aNil x0) fun v1 =>
 bnd (aFieldAddr tab 74 v1 3) fun v2 =>
 bnd (aStore tab 4 v2 (.bool true) h) fun h3 =>
 k .normal (st 62 []) h3
 := fun _ _ _ _ _ _ => by kernel_rfl
theorem r54_5 : RR O54 54 62 5 false [] fun _ call md k h =>
 k .normal (st 62 [(6, (.int .i64 4))]) h
 := fun _ _ _ _ _ _ => by kernel_rfl
theorem r54_6 (x0 x1 x2 x33 : AV) : RR O54 54 62 6 false [(0, x0), (1, x1), (2, x2), (33, x33)] fun _ call md k h =>
 bnd (aNil x0) fun v1 =>
 bnd (aFieldAddr tab 74 v1 2) fun v2 =>
 bnd (aLoad tab 3 v2 h) fun v3 =>
 bnd (aBinC tab .gtr 3 v3 (.int .i64 0) true) fun v4 =>
 k .normal (st 62 [(0, x0), (1, x1), (2, x2), (41, v4)]) h
 := fun _ _ _ _ _ _ => by kernel_rfl
theorem r54_7 (x0 x1 x2 x41 : AV) : RR O54 54 62 7 false [(0, x0), (1, x1), (2, x2), (41, x41)] fun _ call md k h =>
 bnd (aNil x0) fun v1 =>
 bnd (aFieldAddr tab 74 v1 2) fun v2 =>
 bnd (aLoad tab 3 v2 h) fun v3 =>
 bnd (aBinC tab .sub 3 v3 (.int .i64 1) true) fun v4 =>
 bnd (aNil x0) fun v5 =>
 bnd (aFieldAddr tab 74 v5 2) fun v6 =>
 bnd (aStore tab 3 v6 v4 h) fun h7 =>
 k .normal (st 62 [(0, x0), (1, x1), (2, x2)]) h7
 := fun _ _ _ _ _ _ => by kernel_rfl
theorem r54_8a (x0 x1 x2 x41 : AV) : RR O54 54 62 8 true [(0, x0), (1, x1), (2, x2), (41, x41)] fun _ call md k h =>
 bnd (aNil x0) fun v1 =>
 bnd (aFieldAddr tab 74 v1 1) fun v2 =>
 bnd (aLoad tab 72 v2 h) fun v3 =>
 bnd2 (call md 21 [x2] h) fun v4 h5 =>
 bnd (aBuild tab 112 [(0, x1), (1, v4)]) fun v6 =>
 bnd (aLit tab 72 1 [(0, v6)]) fun v7 =>
 bnd2 (aApp tab 72 72 md v3 v7 h5) fun v8 h9 =>
 bnd (aNil x0) fun v10 =>
 bnd (aFieldAddr tab 74 v10 1) fun v11 =>
 bnd (aStore tab 72 v11 v8 h9) fun h12 =>
 onT (rdSame (aLoad tab 72 v2 h5) v3) <|
 k .normal (st 62 []) h12
 := RRp [(4, 7)] (by kernel_rfl) (by kernel_rfl) (fun _ _ _ _ _ => by kernel_rfl)
theorem r54_8b (x0 x1 x2 : AV) : RR O54 54 62 8 true [(0, x0), (1, x1), (2, x2)] fun _ call md k h =>
 bnd (aNil x0) fun v1 =>
 bnd (aFieldAddr tab 74 v1 1) fun v2 =>
 bnd (aLoad tab 72 v2 h) fun v3 =>
 bnd2 (call md 21 [x2] h) fun v4 h5 =>
 bnd (aBuild tab 112 [(0, x1), (1, v4)]) fun v6 =>
 bnd (aLit tab 72 1 [(0, v6)]) fun v7 =>
 bnd2 (aApp tab 72 72 md v3 v7 h5) fun v8 h9 =>
 bnd (aNil x0) fun v10 =>
 bnd (aFieldAddr tab 74 v10 1) fun v11 =>
 bnd (aStore tab 72 v11 v8 h9) fun h12 =>
 onT (rdSame (aLoad tab 72 v2 h5) v3) <|
 k .normal (st 62 []) h12
 := RRp [(4, 7)] (by kernel_rfl) (by kernel_rfl) (fun _ _ _ _ _ => by kernel_rfl)
theorem r54_9 : RR O54 54 62 9 false [] fun _ call md k h =>
 k .normal (st 62 [(6, (.int .i64 0))]) h
 := fun _ _ _ _ _ _ => by kernel_rfl
def R54 := And.intro @r54_0 <| And.intro @r54_1 <| And.intro @r54_2 <| And.intro @r54_3 <| And.intro @r54_4 <| And.intro @r54_5 <| And.intro @r54_6 <| And.intro @r54_7 <| And.intro @r54_8a <| And.intro @r54_8b <| @r54_9
end Go.Ax

set_option linter.unusedVariables false
namespace Go.Ax
open Go Go.Proofs
noncomputable def O55 (i : Nat) : Array Oper := opsOf i (bodyOf Try.f55)
noncomputable def B55_1 : Code := (.seq (.seq (.region 7 (O55 7) false) (.cond (Go.Operand.tmp 36) .skip (.exit 0))) (.seq (.block 1 (.region 9 (O55 9) true)) (.region 8 (O55 8) false)))
theorem s55 : bodyOf Try.f55 = (.seq (.region 0 (O55 0) false) (.seq (.seq (.region 1 (O55 1) false) (.cond (Go.Operand.tmp 14) (.seq (.region 2 (O55 2) false) (.seq (.region 3 (O55 3) false) .ret)) .skip)) (.seq (.seq (.region 4 (O55 4) false) (.cond (Go.Operand.tmp 22) (.region 5 (O55 5) false) .skip)) (.seq (.seq (.region 6 (O55 6) false) (.block 0 (.loop B55_1))) (.seq (.region 10 (O55 10) false) (.seq (.region 11 (O55 11) false) .ret)))))) := by kernel_rfl
theorem e55 : E0 55 = some ⟨63, [2], bodyOf Try.f55⟩ := by kernel_rfl
theorem r55_0 (x0 : AV) : RR O55 55 63 0 false [(0, x0)] fun _ call md k h =>
 k .normal (st 63 [(0, x0)]) h
 := fun _ _ _ _ _ _ => by kernel_rfl
theorem r55_1 (x0 : AV) : RR O55 55 63 1 false [(0, x0)] fun _ call md k h =>
 bnd (aNil x0) fun v1 =>
 bnd (aFieldAddr tab 74 v1 3) fun v2 =>
 bnd (aLoad tab 4 v2 h) fun v3 =>
 gd false v3 h (fun k => k x0 h) fun v4 h5 =>
 gd false v3 h5 (fun k => bnd (aNil v4) (k · h5)) fun v6 h7 =>
 gd false v3 h7 (fun k => bnd (aFieldAddr tab 74 v6 2) (k · h7)) fun v8 h9 =>
 gd false v3 h9 (fun k => bnd (aLoad tab 3 v8 h9) (k · h9)) fun v10 h11 =>
 gd false v3 h11 (fun k => bnd (aBinC tab .eql 3 v10 (.int .i64 0) true) (k · h11)) fun v12 h13 =>
 bnd (aPick v3 (.bool true) v12) fun v14 =>
 k .normal (st 63 [(0, x0), (14, v14)]) h13
 := fun _ _ _ _ _ _ => by kernel_rfl
theorem r55_2 (x0 x14 : AV) : RR O55 55 63 2 false [(0, x0), (14, x14)] fun _ call md k h =>
 bnd (aNil x0) fun v1 =>
 bnd (aFieldAddr tab 74 v1 3) fun v2 =>
 bnd (aStore tab 4 v2 (.bool true) h) fun h3 =>
 k .normal (st 63 []) h3
 := fun _ _ _ _ _ _ => by kernel_rfl
theorem r55_3 : RR O55 55 63 3 false [] fun _ call md k h =>
 k .normal (st 63 [(2, (.int .i64 4))]) h
 := fun _ _ _ _ _ _ => by kernel_rfl
theorem r55_4 (x0 x14 : AV) : RR O55 55 63 4 false [(0, x0), (14, x14)] fun _ call md k h =>
 bnd (aNil x0) fun v1 =>
 bnd (aFieldAddr tab 74 v1 2) fun v2 =>
 bnd (aLoad tab 3 v2 h) fun v3 =>
 bnd (aBinC tab .gtr 3 v3 (.int .i64 0) true) fun v4 =>
 k .normal (st 63 [(0, x0), (22, v4)]) h
 := fun _ _ _ _ _ _ => by kernel_rfl
theorem r55_5 (x0 x22 : AV) : RR O55 55 63 5 false [(0, x0), (22, x22)] fun _ call md k h =>
 bnd (aNil x0) fun v1 =>
 bnd (aFieldAddr tab 74 v1 2) fun v2 =>
 bnd (aLoad tab 3 v2 h) fun v3 =>
 bnd (aBinC tab .sub 3 v3 (.int .i64 1) true) fun v4 =>
 bnd (aNil x0) fun v5 =>
 bnd (aFieldAddr tab 74 v5 2) fun v6 =>
 bnd (aStore tab 3 v6 v4 h) fun h7 =>
 k .normal (st 63 [(0, x0)]) h7
 := fun _ _ _ _ _ _ => by kernel_rfl
theorem r55_6a (x0 x22 : AV) : RR O55 55 63 6 false [(0, x0), (22, x22)] fun _ call md k h =>
 k .normal (st 63 [(0, x0), (3, (.int .i64 0))]) h
 := fun _ _ _ _ _ _ => by kernel_rfl
theorem r55_6b (x0 : AV) : RR O55 55 63 6 false [(0, x0)] fun _ call md k h =>
 k .normal (st 63 [(0, x0), (3, (.int .i64 0))]) h
 := fun _ _ _ _ _ _ => by kernel_rfl
theorem r55_7 (x0 x3 : AV) : RR O55 55 63 7 false [(0, x0), (3, x3)] fun _ call md k h =>
 bnd (aNil x0) fun v1 =>
 bnd (aFieldAddr tab 74 v1 1) fun v2 =>
 bnd (aLoad tab 72 v2 h) fun v3 =>
 bnd (aLen tab 72 v3) fun v4 =>
 bnd (aBinC tab .lss 3 x3 v4 false) fun v5 =>
 k .normal (st 63 [(0, x0), (3, x3), (36, v5)]) h
 := fun _ _ _ _ _ _ => by kernel_rfl
theorem r55_8 (x0 x3 : AV) : RR O55 55 63 8 false [(0, x0), (3, x3)] fun _ call md k h =>
 bnd (aBinC tab .add 3 x3 (.int .i64 1) true) fun v1 =>
 k .normal (st 63 [(0, x0), (3, v1)]) h
 := fun _ _ _ _ _ _ => by kernel_rfl
theorem r55_9 (x0 x3 x36 : AV) : RR O55 55 63 9 true [(0, x0), (3, x3), (36, x36)] fun _ call md k h =>
 bnd (aNil x0) fun v1 =>
 bnd (aFieldAddr tab 74 v1 0) fun v2 =>
 bnd (aLoad tab 30 v2 h) fun v3 =>
 bnd (aNil x0) fun v4 =>
 bnd (aFieldAddr tab 74 v4 1) fun v5 =>
 bnd (aLoad tab 72 v5 h) fun v6 =>
 bnd (aIndexAddr tab 72 v6 x3) fun v7 =>
 bnd (aFieldAddr tab 112 v7 0) fun v8 =>
 bnd (aLoad tab 3 v8 h) fun v9 =>
 bnd (aNil x0) fun v10 =>
 bnd (aFieldAddr tab 74 v10 1) fun v11 =>
 bnd (aLoad tab 72 v11 h) fun v12 =>
 bnd (aIndexAddr tab 72 v12 x3) fun v13 =>
 bnd (aFieldAddr tab 112 v13 1) fun v14 =>
 bnd (aLoad tab 22 v14 h) fun v15 =>
 bnd (aIndexAddr tab 30 v3 v9) fun v16 =>
 bnd (aStore tab 22 v16 v15 h) fun h17 =>
 k .normal (st 63 [(0, x0), (3, x3)]) h17
 := RRd (by kernel_rfl) (by kernel_rfl) (fun _ _ _ _ _ => by kernel_rfl)
theorem r55_10 (x0 x3 x36 : AV) : RR O55 55 63 10 false [(0, x0), (3, x3), (36, x36)] fun _ call md k h =>
 bnd (aNil x0) fun v1 =>
 bnd (aFieldAddr tab 74 v1 1) fun v2 =>
 bnd (aStore tab 72 v2 .nils h) fun h3 =>
 k .normal (st 63 []) h3
 := fun _ _ _ _ _ _ => by kernel_rfl
theorem r55_11 : RR O55 55 63 11 false [] fun _ call md k h =>
 k .normal (st 63 [(2, (.int .i64 0))]) h
 := fun _ _ _ _ _ _ => by kernel_rfl
def R55 := And.intro @r55_0 <| And.intro @r55_1 <| And.intro @r55_2 <| And.intro @r55_3 <| And.intro @r55_4 <| And.intro @r55_5 <| And.intro @r55_6a <| And.intro @r55_6b <| And.intro @r55_7 <| And.intro @r55_8 <| And.intro @r55_9 <| And.intro @r55_10 <| @r55_11
end Go.Ax

set_option linter.unusedVariables false
namespace Go.Ax
open Go Go.Proofs
noncomputable def O56 (i : Nat) : Array Oper := opsOf i (bodyOf Try.f56)
theorem s56 : bodyOf Try.f56 = (.seq (.region 0 (O56 0) false) (.seq (.seq (.region 1 (O56 1) false) (.cond (Go.Operand.tmp 11) (.seq (.region 2 (O56 2) false) .ret) .skip)) (.seq (.region 3 (O56 3) false) .ret))) := by kernel_rfl
theorem e56 : E0 56 = some ⟨18, [4], bodyOf Try.f56⟩ := by kernel_rfl
theorem r56_0 (x0 x1 : AV) : RR O56 56 18 0 false [(0, x0), (1, x1)] fun _ call md k h =>
 k .normal (st 18 [(0, x0), (1, x1)]) h
 := fun _ _ _ _ _ _ => by kernel_rfl
theorem r56_1 (x0 x1 : AV) : RR O56 56 18 1 false [(0, x0), (1, x1)] fun _ call md k h =>
 bnd (aNil x0) fun v1 =>
 bnd (aFieldAddr tab 74 v1 0) fun v2 =>
 bnd (aLoad tab 30 v2 h) fun v3 =>
 bnd (aLen tab 30 v3) fun v4 =>
 bnd (aBinC tab .gtr 3 x1 v4 false) fun v5 =>
 k .normal (st 18 [(0, x0), (1, x1), (11, v5)]) h
 := fun _ _ _ _ _ _ => by kernel_rfl
theorem r56_2 (x0 x1 x11 : AV) : RR O56 56 18 2 false [(0, x0), (1, x1), (11, x11)] fun _ call md k h =>
 bnd (aNil x0) fun v1 =>
 bnd (aFieldAddr tab 74 v1 0) fun v2 =>
 bnd (aLoad tab 30 v2 h) fun v3 =>
 bnd (aLen tab 30 v3) fun v4 =>
 k .normal (st 18 [(4, v4)]) h
 := fun _ _ _ _ _ _ => by kernel_rfl
theorem r56_3 (x0 x1 x11 : AV) : RR O56 56 18 3 false [(0, x0), (1, x1), (11, x11)] fun _ call md k h =>
 k .normal (st 18 [(4, x1)]) h
 := fun _ _ _ _ _ _ => by kernel_rfl
def R56 := And.intro @r56_0 <| And.intro @r56_1 <| And.intro @r56_2 <| @r56_3
end Go.Ax

set_option linter.unusedVariables false
namespace Go.Ax
open Go Go.Proofs
noncomputable def O57 (i : Nat) : Array Oper := opsOf i (bodyOf Try.f57)
noncomputable def B57_1 : Code := (.seq (.seq (.region 5 (O57 5) false) (.cond (Go.Operand.tmp 32) .skip (.exit 0))) (.seq (.block 1 (.seq (.region 7 (O57 7) false) (.cond (Go.Operand.tmp 44) (.region 8 (O57 8) false) .skip))) (.region 6 (O57 6) false)))
theorem s57 : bodyOf Try.f57 = (.seq (.region 0 (O57 0) false) (.seq (.seq (.region 1 (O57 1) false) (.cond (Go.Operand.tmp 17) (.seq (.region 2 (O57 2) false) .ret) .skip)) (.seq (.region 3 (O57 3) false) (.seq (.seq (.region 4 (O57 4) false) (.block 0 (.loop B57_1))) (.seq (.region 9 (O57 9) false) .ret))))) := by kernel_rfl
theorem e57 : E0 57 = some ⟨54, [4], bodyOf Try.f57⟩ := by kernel_rfl
theorem r57_0 (x0 x1 : AV) : RR O57 57 54 0 false [(0, x0), (1, x1)] fun _ call md k h =>
 k .normal (st 54 [(0, x0), (1, x1)]) h
 := fun _ _ _ _ _ _ => by kernel_rfl
theorem r57_1 (x0 x1 : AV) : RR O57 57 54 1 false [(0, x0), (1, x1)] fun _ call md k h =>
 bnd (aBinC tab .lss 3 x1 (.int .i64 0) true) fun v1 =>
 gd false v1 h (fun k => k x1 h) fun v2 h3 =>
 gd false v1 h3 (fun k => k x0 h3) fun v4 h5 =>
 gd false v1 h5 (fun k => bnd (aNil v4) (k · h5)) fun v6 h7 =>
 gd false v1 h7 (fun k => bnd (aFieldAddr tab 74 v6 0) (k · h7)) fun v8 h9 =>
 gd false v1 h9 (fun k => bnd (aLoad tab 30 v8 h9) (k · h9)) fun v10 h11 =>
 gd false v1 h11 (fun k => bnd (aLen tab 30 v10) (k · h11)) fun v12 h13 =>
 gd false v1 h13 (fun k => bnd (aBinC tab .geq 3 v2 v12 false) (k · h13)) fun v14 h15 =>
 bnd (aPick v1 (.bool true) v14) fun v16 =>
 k .normal (st 54 [(0, x0), (1, x1), (17, v16)]) h15
 := fun _ _ _ _ _ _ => by kernel_rfl
theorem r57_2 (x0 x1 x17 : AV) : RR O57 57 54 2 false [(0, x0), (1, x1), (17, x17)] fun _ call md k h =>
 bnd (aZeroSl tab 22 (.int .i64 64) (.int .i64 64)) fun v1 =>
 k .normal (st 54 [(4, v1)]) h
 := fun _ _ _ _ _ _ => by kernel_rfl
theorem r57_3 (x0 x1 x17 : AV) : RR O57 57 54 3 false [(0, x0), (1, x1), (17, x17)] fun _ call md k h =>
 bnd (aNil x0) fun v1 =>
 bnd (aFieldAddr tab 74 v1 0) fun v2 =>
 bnd (aLoad tab 30 v2 h) fun v3 =>
 bnd (aIndexAddr tab 30 v3 x1) fun v4 =>
 bnd (aLoad tab 22 v4 h) fun v5 =>
 k .normal (st 54 [(0, x0), (1, x1), (5, v5)]) h
 := fun _ _ _ _ _ _ => by kernel_rfl
theorem r57_4 (x0 x1 x5 : AV) : RR O57 57 54 4 false [(0, x0), (1, x1), (5, x5)] fun _ call md k h =>
 k .normal (st 54 [(0, x0), (1, x1), (5, x5), (6, (.int .i64 0))]) h
 := fun _ _ _ _ _ _ => by kernel_rfl
theorem r57_5 (x0 x1 x5 x6 : AV) : RR O57 57 54 5 false [(0, x0), (1, x1), (5, x5), (6, x6)] fun _ call md k h =>
 bnd (aNil x0) fun v1 =>
 bnd (aFieldAddr tab 74 v1 1) fun v2 =>
 bnd (aLoad tab 72 v2 h) fun v3 =>
 bnd (aLen tab 72 v3) fun v4 =>
 bnd (aBinC tab .lss 3 x6 v4 false) fun v5 =>
 k .normal (st 54 [(0, x0), (1, x1), (5, x5), (6, x6), (32, v5)]) h
 := fun _ _ _ _ _ _ => by kernel_rfl
theorem r57_6a (x0 x1 x5 x6 x44 : AV) : RR O57 57 54 6 false [(0, x0), (1, x1), (5, x5), (6, x6), (44, x44)] fun _ call md k h =>
 bnd (aBinC tab .add 3 x6 (.int .i64 1) true) fun v1 =>
 k .normal (st 54 [(0, x0), (1, x1), (5, x5), (6, v1)]) h
 := fun _ _ _ _ _ _ => by kernel_rfl
theorem r57_6b (x0 x1 x5 x6 : AV) : RR O57 57 54 6 false [(0, x0), (1, x1), (5, x5), (6, x6)] fun _ call md k h =>
 bnd (aBinC tab .add 3 x6 (.int .i64 1) true) fun v1 =>
 k .normal (st 54 [(0, x0), (1, x1), (5, x5), (6, v1)]) h
 := fun _ _ _ _ _ _ => by kernel_rfl
theorem r57_7 (x0 x1 x5 x6 x32 : AV) : RR O57 57 54 7 false [(0, x0), (1, x1), (5, x5), (6, x6), (32, x32)] fun _ call md k h =>
 bnd (aNil x0) fun v1 =>
 bnd (aFieldAddr tab 74 v1 1) fun v2 =>
 bnd (aLoad tab 72 v2 h) fun v3 =>
 bnd (aIndexAddr tab 72 v3 x6) fun v4 =>
 bnd (aFieldAddr tab 112 v4 0) fun v5 =>
 bnd (aLoad tab 3 v5 h) fun v6 =>
 bnd (aBinC tab .eql 3 v6 x1 false) fun v7 =>
 k .normal (st 54 [(0, x0), (1, x1), (5, x5), (6, x6), (44, v7)]) h
 := fun _ _ _ _ _ _ => by kernel_rfl
theorem r57_8 (x0 x1 x5 x6 x44 : AV) : RR O57 57 54 8 false [(0, x0), (1, x1), (5, x5), (6, x6), (44, x44)] fun _ call md k h =>
 bnd (aNil x0) fun v1 =>
 bnd (aFieldAddr tab 74 v1 1) fun v2 =>
 bnd (aLoad tab 72 v2 h) fun v3 =>
 bnd (aIndexAddr tab 72 v3 x6) fun v4 =>
 bnd (aFieldAddr tab 112 v4 1) fun v5 =>
 bnd (aLoad tab 22 v5 h) fun v6 =>
 k .normal (st 54 [(0, x0), (1, x1), (5, v6), (6, x6)]) h
 := fun _ _ _ _ _ _ => by kernel_rfl
theorem r57_9 (x0 x1 x5 x6 x32 : AV) : RR O57 57 54 9 false [(0, x0), (1, x1), (5, x5), (6, x6), (32, x32)] fun _ call md k h =>
 k .normal (st 54 [(4, x5)]) h
 := fun _ _ _ _ _ _ => by kernel_rfl
def R57 := And.intro @r57_0 <| And.intro @r57_1 <| And.intro @r57_2 <| And.intro @r57_3 <| And.intro @r57_4 <| And.intro @r57_5 <| And.intro @r57_6a <| And.intro @r57_6b <| And.intro @r57_7 <| And.intro @r57_8 <| @r57_9
end Go.Ax

namespace Go.Ax
open Go Go.Proofs
inductive LsL : List AV → List (Nat × List UInt8) → Prop
  | nil : LsL [] []
  | cons {v w vs ws} : Bs v w.2 → LsL vs ws → LsL (.agg 111 [.int .i64 w.1, v] :: vs) (w :: ws)
theorem LsL.length : ∀ {l : List AV} {m : List (Nat × List UInt8)}, LsL l m → l.length = m.length
  | _, _, .nil => rfl
  | _, _, .cons _ t => by simp [LsL.length t]
theorem LsL.append : ∀ {l l' : List AV} {m m' : List (Nat × List UInt8)}, LsL l m → LsL l' m' → LsL (l ++ l') (m ++ m')
  | _, _, _, _, .nil, h => h
  | _, _, _, _, .cons a t, h => .cons a (LsL.append t h)
theorem LsL.get : ∀ {vs : List AV} {ws : List (Nat × List UInt8)}, LsL vs ws → ∀ {i : Nat} {w : Nat × List UInt8}, ws[i]? = some w → ∃ v, vs[i]? = some (.agg 111 [.int .i64 w.1, v]) ∧ Bs v w.2
  | _, _, .nil, i, l, h => by simp at h
  | _, _, .cons a t, 0, l, h => by simp at h; subst h; exact ⟨_, rfl, a⟩
  | _, _, .cons a t, i + 1, l, h => by simpa using t.get (i := i) (by simpa using h)
theorem BsL.set : ∀ {vs : List AV} {ls : List (List UInt8)} {v : AV} {l : List UInt8}, BsL vs ls → ∀ (i : Nat), Bs v l → BsL (vs.set i v) (ls.set i l)
  | _, _, _, _, .nil, _, _ => .nil
  | _, _, _, _, .cons _ t, 0, h => .cons h t
  | _, _, _, _, .cons a t, i + 1, h => .cons a (t.set i h)
def sAV (r n : Nat) : AV := if n = 0 then .nils else .msl r [] 22 0 n
def rv (r n : Nat) (x : AV) (f : Int) (w : Bool) : Obj := .var 74 (.agg 73 [sAV r n, x, .int .i64 f, .bool w])
structure Rsk (S : Obs) (h : Heap) (p r : Nat) (d : Dk) : Prop where
  hp : S p
  hr : d.lasts ≠ [] → S r
  var : ∃ x vs, h[p]? = some (rv r d.lasts.length x d.fuse d.down) ∧ Ap 111 S h x vs ∧ LsL vs d.loose
  row : d.lasts ≠ [] → ∃ vs, h[r]? = some (.row 22 vs) ∧ BsL vs d.lasts
  cells : ∀ b ∈ d.lasts, b.length = 64
  loose : ∀ w ∈ d.loose, w.1 < d.lasts.length ∧ w.2.length = 64
  few : d.lasts.length ≤ 1024
theorem Rsk.keep {S U : Obs} {h h' : Heap} {p r : Nat} {d : Dk} (D : Rsk S h p r d) (k : Keep U h h') (hd : ∀ i, i < h.length → S i → ¬ U i) : Rsk S h' p r d := by
  obtain ⟨x, vs, hx, ha, hl⟩ := D.var
  refine ⟨D.hp, D.hr, ⟨x, vs, ?_, ha.keep k hd, hl⟩, fun hne => ?_, D.cells, D.loose, D.few⟩
  · rw [k.2 p (hd p (List.getElem?_eq_some_iff.1 hx).1 D.hp)]; exact hx
  · obtain ⟨us, hr, hb⟩ := D.row hne
    exact ⟨us, by rw [k.2 r (hd r (List.getElem?_eq_some_iff.1 hr).1 (D.hr hne))]; exact hr, hb⟩
theorem Rsk.fresh {S : Obs} {h h' : Heap} {p r : Nat} {d : Dk} (D : Rsk S h p r d) (k : Keep (From h.length) h h') : Rsk S h' p r d := D.keep k fun _ hi _ hj => Nat.not_le.2 hi hj
theorem Rsk.mono {S U : Obs} {h : Heap} {p r : Nat} {d : Dk} (D : Rsk S h p r d) (hs : ∀ i, S i → U i) : Rsk U h p r d := by
  obtain ⟨x, vs, hx, ha, hl⟩ := D.var
  exact ⟨hs _ D.hp, fun e => hs _ (D.hr e), ⟨x, vs, hx, ha.mono hs, hl⟩, D.row, D.cells, D.loose, D.few⟩
abbrev rp (p : Nat) : AV := .ref p [] 73
section fields
variable {h : Heap} {p r n : Nat} {x : AV} {f : Int} {w : Bool} (hp : h[p]? = some (rv r n x f w))
include hp
theorem rld0 : aLoad tab 30 (.ref p [0] 30) h = some (sAV r n) := load_fld (i := 0) hp rfl (by simp)
theorem rld1 : aLoad tab 72 (.ref p [1] 72) h = some x := load_fld (i := 1) hp rfl (by simp)
theorem rld2 : aLoad tab 3 (.ref p [2] 3) h = some (.int .i64 f) := load_fld (i := 2) hp rfl (by simp)
theorem rld3 : aLoad tab 4 (.ref p [3] 4) h = some (.bool w) := load_fld (i := 3) hp rfl (by simp)
theorem rst1 {y : AV} (hf : fits tab 72 y = true) : aStore tab 72 (.ref p [1] 72) y h = some (h.set p (rv r n y f w)) := store_fld (i := 1) hp rfl (by simp) hf
theorem rst2 (g : Int) : aStore tab 3 (.ref p [2] 3) (.int .i64 g) h = some (h.set p (rv r n x g w)) := store_fld (i := 2) hp rfl (by simp) rfl
theorem rst3 (g : Bool) : aStore tab 4 (.ref p [3] 4) (.bool g) h = some (h.set p (rv r n x f g)) := store_fld (i := 3) hp rfl (by simp) rfl
end fields
theorem rp_chk (p : Nat) : aNil (rp p) = some (rp p) := rfl
theorem rpf0 (p : Nat) : aFieldAddr tab 74 (rp p) 0 = some (.ref p [0] 30) := by simp [aFieldAddr]
theorem rpf1 (p : Nat) : aFieldAddr tab 74 (rp p) 1 = some (.ref p [1] 72) := by simp [aFieldAddr]
theorem rpf2 (p : Nat) : aFieldAddr tab 74 (rp p) 2 = some (.ref p [2] 3) := by simp [aFieldAddr]
theorem rpf3 (p : Nat) : aFieldAddr tab 74 (rp p) 3 = some (.ref p [3] 4) := by simp [aFieldAddr]
theorem lens (r n : Nat) : aLen tab 30 (sAV r n) = some (.int .i64 n) := by
  unfold sAV
  split
  · rename_i h; subst h; simp [aLen]
  · simp [aLen]
theorem idxs (r n i : Nat) (hi : i < n) : aIndexAddr tab 30 (sAV r n) (.int .i64 i) = some (.ref r [i] 22) := by
  unfold sAV
  rw [if_neg (by omega)]
  simp [aIndexAddr, hi]
theorem len72 {S : Obs} {h : Heap} {x : AV} {l : List AV} (a : Ap 111 S h x l) : aLen tab 72 x = some (.int .i64 l.length) := by
  rcases a with ⟨rfl, rfl⟩ | ⟨k, rfl, -⟩ <;> simp [aLen]
theorem idx72 {S : Obs} {h : Heap} {x : AV} {l : List AV} (a : Ap 111 S h x l) {i : Nat} {w : AV} (hi : l[i]? = some w) : aIndexAddr tab 72 x (.int .i64 i) = some (.vptr 111 w) := by
  rcases a with ⟨rfl, rfl⟩ | ⟨k, rfl, -⟩
  · simp at hi
  · simp [aIndexAddr, hi]
theorem Ap.fits72 {S : Obs} {h : Heap} {x : AV} {l : List AV} (a : Ap 111 S h x l) : fits tab 72 x = true := by
  rcases a with ⟨rfl, -⟩ | ⟨k, rfl, -⟩ <;> rfl
theorem fa112v_0 (a v : AV) : aFieldAddr tab 112 (.vptr 111 (.agg 111 [a, v])) 0 = some (.vptr 3 a) := by simp [aFieldAddr]
theorem fa112v_1 (a v : AV) : aFieldAddr tab 112 (.vptr 111 (.agg 111 [a, v])) 1 = some (.vptr 22 v) := by simp [aFieldAddr]
theorem bld112 (n : Nat) {v : AV} (hv : fits tab 22 v = true) : aBuild tab 112 [(0, .int .i64 n), (1, v)] = some (.agg 111 [.int .i64 n, v]) := by
  have h3 : fits tab 3 (.int .i64 n) = true := rfl
  simp [aBuild, aFill, hv, h3]
theorem lit72 (n : Nat) (v : AV) : aLit tab 72 1 [(0, .agg 111 [.int .i64 n, v])] = some (.vsl 111 [.agg 111 [.int .i64 n, v]] .exact) := by
  simp [aLit, aElems, aFill, fits]
theorem app72 (x : AV) (new : List AV) (k : Tok) (h : Heap) : aApp tab 72 72 false x (.vsl 111 new k) h = aAppend tab 112 false x new h := by kernel_rfl
theorem Rsk.upd {S : Obs} {p r : Nat} {h : Heap} {d : Dk} (D : Rsk S h p r d) {x : AV} {vs : List AV} (hx : h[p]? = some (rv r d.lasts.length x d.fuse d.down)) (ha : Ap 111 S h x vs) (hl : LsL vs d.loose) (f : Int) (w : Bool) :
    Rsk S (h.set p (rv r d.lasts.length x f w)) p r { d with fuse := f, down := w } := by
  have hlt : p < h.length := (List.getElem?_eq_some_iff.1 hx).1
  refine ⟨D.hp, D.hr, ⟨x, vs, by simp [hlt], ha.at hx (by simp [rv]) fun i _ hi => List.getElem?_set_ne (by omega), hl⟩, fun hne => ?_, D.cells, D.loose, D.few⟩
  obtain ⟨us, hr, hb⟩ := D.row hne
  refine ⟨us, ?_, hb⟩
  rw [List.getElem?_set_ne]
  · exact hr
  · intro e
    subst e
    rw [hx] at hr
    cases hr
def Dk.rdown (d : Dk) : Dk := { d with fuse := d.fuse, down := true }
def Dk.rburn (d : Dk) : Dk := { d with fuse := if 0 < d.fuse then d.fuse - 1 else d.fuse, down := d.down }
def Dk.off (d : Dk) : Prop := d.down = true ∨ d.fuse = 0
instance (d : Dk) : Decidable d.off := by unfold Dk.off; infer_instance
def Dk.rwrite (d : Dk) (at' : Int) (b : List UInt8) : Int × Dk :=
  if ¬ d.has at' ∨ 64 < b.length then (1, d)
  else if d.off then (4, d.rdown)
  else (0, d.rburn.add (at'.toNat, pad b))
def Dk.rflush (d : Dk) : Int × Dk := if d.off then (4, d.rdown) else (0, ⟨d.now, [], d.rburn.fuse, d.down⟩)
theorem wrn0 (p : Nat) (at' : Int) (x : AV) : ([rp p, .int .i64 at', x] ++ List.replicate (62 - [rp p, .int .i64 at', x].length) AV.undef) = st 62 [(0, rp p), (1, .int .i64 at'), (2, x)] := rfl
theorem rdSame_refl (v : AV) : rdSame (some v) v = true := AV.same_refl v
theorem Rsk.add {S : Obs} {p r : Nat} {h h' : Heap} {d : Dk} (D : Rsk S h p r d) {w : Nat × List UInt8} {x : AV} {vs : List AV} (hw : w.1 < d.lasts.length ∧ w.2.length = 64)
    (ha : Ap 111 S h' x vs) (hv : LsL vs (d.loose ++ [w])) (hr : ∀ l, h[r]? = some (.row 22 l) → h'[r]? = some (.row 22 l)) {y : AV} (hp : h'[p]? = some (rv r d.lasts.length y d.fuse d.down)) :
    Rsk S (h'.set p (rv r d.lasts.length x d.fuse d.down)) p r (d.add w) := by
  have hlt : p < h'.length := (List.getElem?_eq_some_iff.1 hp).1
  refine ⟨D.hp, D.hr, ⟨x, vs, by simp [hlt, Dk.add], ha.at hp (fun g e => by cases e) fun i _ hi => List.getElem?_set_ne (by omega), hv⟩, fun hne => ?_, D.cells, ?_, D.few⟩
  · obtain ⟨us, hr0, hb⟩ := D.row hne
    have := hr _ hr0
    refine ⟨us, ?_, hb⟩
    rw [List.getElem?_set_ne]
    · exact this
    · intro e
      subst e
      rw [hp] at this
      cases this
  · intro v hv
    rcases List.mem_append.1 hv with hv | hv
    · exact D.loose v hv
    · simp only [List.mem_singleton] at hv; subst hv; exact hw
theorem rwrite_ok {S U : Obs} {p r : Nat} {h : Heap} {d : Dk} (D : Rsk S h p r d) (up : Up S h) (at' : Int) {x : AV} {b : List UInt8} (hb : By U h x b) (hU : ∀ i, i < h.length → U i → ¬ S i)
    (hl : d.loose.length < 2 ^ 30) (hf : d.fuse < 2 ^ 63) (k : Nat) :
    ∃ h', exFn C0 E0 (k + 3) false 54 [rp p, .int .i64 at', x] h = some (.int .i64 (d.rwrite at' b).1, h') ∧ Rsk S h' p r (d.rwrite at' b).2 ∧ Keep S h h' := by
  obtain ⟨y, vs, hy, ha, hls⟩ := D.var
  unfold Dk.rwrite
  by_cases h1 : d.has at'
  case neg =>
    rw [if_pos (.inl h1)]
    refine ⟨h, exFn_of e54 ?_, D, Keep.refl _ _⟩
    rw [fnK, wrn0, s54]
    by_cases q : at' < 0
    · simp -implicitDefEqProofs only [↓RK, RK, ↓RB, RB, decide_true, decide_false, STs, Nat.reduceBEq, ↓reduceIte, Nat.reduceLT, ↓R54, R54, bin_lss, decide_eq_true q]
    · have q2 : ((d.lasts.length : Nat) : Int) ≤ at' := by unfold Dk.has at h1; omega
      simp -implicitDefEqProofs only [↓RK, RK, ↓RB, RB, decide_true, decide_false, STs, Nat.reduceBEq, ↓reduceIte, Nat.reduceLT, ↓R54, R54, bin_lss, decide_eq_false q, rp_chk, rpf0, rld0 hy, lens, bin_geq, decide_eq_true q2]
  have q1 : decide (at' < 0) = false := decide_eq_false (by have := h1.1; omega)
  have q2 : decide (((d.lasts.length : Nat) : Int) ≤ at') = false := decide_eq_false (by have := h1.2; omega)
  by_cases h2 : 64 < b.length
  · rw [if_pos (.inr h2)]
    have e2 : decide ((64 : Int) < (b.length : Nat)) = true := decide_eq_true (by omega)
    refine ⟨h, exFn_of e54 ?_, D, Keep.refl _ _⟩
    rw [fnK, wrn0, s54]
    simp -implicitDefEqProofs only [↓RK, RK, ↓RB, RB, decide_true, decide_false, STs, Nat.reduceBEq, ↓reduceIte, Nat.reduceLT, ↓R54, R54, bin_lss, q1, rp_chk, rpf0, rld0 hy, lens, bin_geq, q2, hb.len, bin_gtr, e2]
  rw [if_neg (fun h => h.elim (fun h => h h1) h2)]
  have e2 : decide ((64 : Int) < (b.length : Nat)) = false := decide_eq_false (by omega)
  by_cases h3 : d.off
  · rw [if_pos h3]
    refine ⟨_, exFn_of e54 ?_, D.upd hy ha hls d.fuse true, Keep.set h _ D.hp⟩
    rw [fnK, wrn0, s54]
    cases hd : d.down
    · have e3 : decide (d.fuse = 0) = true := decide_eq_true (by rcases h3 with h3 | h3; rw [hd] at h3; cases h3; exact h3)
      rw [hd] at hy
      simp -implicitDefEqProofs only [↓RK, RK, ↓RB, RB, decide_true, decide_false, STs, Nat.reduceBEq, ↓reduceIte, Nat.reduceLT, ↓R54, R54, bin_lss, q1, rp_chk, rpf0, rld0 hy, lens, bin_geq, q2, hb.len, bin_gtr, e2, rpf3, rld3 hy, rpf2, rld2 hy, bin_eql, e3, rst3 hy]
    · rw [hd] at hy
      simp -implicitDefEqProofs only [↓RK, RK, ↓RB, RB, decide_true, decide_false, STs, Nat.reduceBEq, ↓reduceIte, Nat.reduceLT, ↓R54, R54, bin_lss, q1, rp_chk, rpf0, rld0 hy, lens, bin_geq, q2, hb.len, bin_gtr, e2, rpf3, rld3 hy, rst3 hy]
  rw [if_neg h3]
  have hd : d.down = false := by
    cases hd : d.down
    · rfl
    · exact absurd (.inl hd) h3
  have hf0 : d.fuse ≠ 0 := fun e => h3 (.inr e)
  have e3 : decide (d.fuse = 0) = false := decide_eq_false hf0
  obtain ⟨n, rfl⟩ : ∃ n : Nat, at' = n := ⟨at'.toNat, by have := h1.1; omega⟩
  rw [Int.toNat_natCast]
  -- the fuse
  have D1 : Rsk S (h.set p (rv r d.lasts.length y d.rburn.fuse d.down)) p r d.rburn := D.upd hy ha hls _ _
  have k1 : Keep S h (h.set p (rv r d.lasts.length y d.rburn.fuse d.down)) := Keep.set h _ D.hp
  have hb1 := hb.keep k1 hU
  have hlt : p < h.length := (List.getElem?_eq_some_iff.1 hy).1
  have hset : d.fuse < 0 → h.set p (rv r d.lasts.length y d.rburn.fuse d.down) = h := by
    intro hneg
    have : d.rburn.fuse = d.fuse := by simp only [Dk.rburn]; rw [if_neg (by omega)]
    rw [this]
    apply List.ext_getElem?
    intro i
    by_cases hi : p = i
    · subst hi; rw [List.getElem?_set_self hlt, hy]
    · rw [List.getElem?_set_ne hi]
  have st2 : 0 < d.fuse → aStore tab 3 (.ref p [2] 3) (.int .i64 (d.fuse - 1)) h = some (h.set p (rv r d.lasts.length y d.rburn.fuse d.down)) := by
    intro hpos
    have : d.rburn.fuse = d.fuse - 1 := by simp only [Dk.rburn]; rw [if_pos hpos]
    rw [this]
    exact rst2 hy _
  have hbl : d.rburn.loose.length = d.loose.length := rfl
  generalize h.set p (rv r d.lasts.length y d.rburn.fuse d.down) = H1 at *
  obtain ⟨H2, f1, f2⟩ := fill_ok hb1 (by omega) (k + 1)
  have up2 := (up.keep k1).keep f2
  have D2 := D1.fresh f2
  obtain ⟨y1, vs1, hy1, -, -⟩ := D1.var
  obtain ⟨y2, vs2, hy2, ha2, hl2⟩ := D2.var
  obtain rfl : y1 = y2 := by
    have := f2.2 p (fun hh => Nat.not_le.2 (List.getElem?_eq_some_iff.1 hy1).1 hh)
    rw [hy1, hy2] at this
    cases this
    rfl
  have hvl := hl2.length
  obtain ⟨y', h3', kk, ap, hyk, ha3, k3, nt⟩ := Ap.append (T := tab) (e := 112) (S := S) (h := H2) (x := y1) (l := vs2) (new := [.agg 111 [.int .i64 (n : Nat), .vsl 5 ((pad b).map U8) .none]]) (by rw [tu112]; exact ha2) up2 (by simp) (by simp)
    (by simp only [tb112, List.length_singleton]; omega) (by simp only [List.length_singleton]; omega) (by simp)
  rw [tu112] at ha3
  have hy3 := nt p _ hy2 (fun g e => by cases e)
  have hr3 : ∀ l, H2[r]? = some (.row 22 l) → h3'[r]? = some (.row 22 l) := fun l hl => nt r _ hl (fun g e => by cases e)
  have D3 := D2.add (w := (n, pad b)) ⟨by have := h1.2; simp only [Dk.rburn]; omega, by simp [pad]; omega⟩ ha3 (hl2.append (LsL.cons (w := (n, pad b)) (.inr ⟨_, rfl⟩) .nil)) hr3 hy3
  refine ⟨_, exFn_of e54 ?_, D3, (k1.fresh f2 up).trans (k3.trans (Keep.set h3' _ D.hp))⟩
  rw [fnK, wrn0, s54]
  have hy' := hy
  rw [hd] at hy'
  have fv : fits tab 22 (.vsl 5 ((pad b).map U8) .none) = true := rfl
  rcases Int.lt_or_gt_of_ne hf0 with hneg | hpos
  · have e4 : decide (0 < d.fuse) = false := decide_eq_false (by omega)
    have hH := hset hneg
    subst hH
    simp -implicitDefEqProofs only [↓RK, RK, ↓RB, RB, decide_true, decide_false, STs, Nat.reduceBEq, ↓reduceIte, Nat.reduceLT, ↓R54, R54, bin_lss, q1, rp_chk, rpf0, rld0 hy, lens, bin_geq, q2, hb.len, bin_gtr, e2, rpf3, rld3 hy', rpf2, rld2 hy, bin_eql, e3, e4, rpf1, rld1 hy1, f1, bld112 n fv, lit72, app72, ap, rst1 hy3 ha3.fits72, rld1 hy2, rdSame_refl]
  · have e4 : decide (0 < d.fuse) = true := decide_eq_true hpos
    have wr : IntKind.i64.wrap (d.fuse - 1) = d.fuse - 1 := by rw [wrap_i64] <;> omega
    simp -implicitDefEqProofs only [↓RK, RK, ↓RB, RB, decide_true, decide_false, STs, Nat.reduceBEq, ↓reduceIte, Nat.reduceLT, ↓R54, R54, bin_lss, q1, rp_chk, rpf0, rld0 hy, lens, bin_geq, q2, hb.len, bin_gtr, e2, rpf3, rld3 hy', rpf2, rld2 hy, bin_eql, e3, e4, bin_sub, wr, st2 hpos, rpf1, rld1 hy1, f1, bld112 n fv, lit72, app72, ap, rst1 hy3 ha3.fits72, rld1 hy2, rdSame_refl]
end Go.Ax

namespace Go.Ax
open Go Go.Proofs
theorem load22v (h : Heap) (v : AV) : aLoad tab 22 (.vptr 22 v) h = some v := load22 h v
theorem store_row {h : Heap} {r i : Nat} {us : List AV} {v : AV} (hr : h[r]? = some (.row 22 us)) (hi : i < us.length) (hv : fits tab 22 v = true) :
    aStore tab 22 (.ref r [i] 22) v h = some (h.set r (.row 22 (us.set i v))) := by
  simp [aStore, hv, hr, objSet, setP, hi]
theorem load_row {h : Heap} {r i : Nat} {us : List AV} {v : AV} (hr : h[r]? = some (.row 22 us)) (hi : us[i]? = some v) : aLoad tab 22 (.ref r [i] 22) h = some v := by
  simp [aLoad, hr, objGet, getP, hi]
theorem rflush_loop {S : Obs} {h0 : Heap} {p r : Nat} {y : AV} {vs : List AV} {lasts : List (List UInt8)} {L : List (Nat × List UInt8)} {f : Int} {w : Bool} (hy : Ap 111 S h0 y vs) (hv : LsL vs L) (hL : L.length < 2 ^ 30)
    (hws : ∀ w ∈ L, w.1 < lasts.length) (hs : lasts ≠ [] → S r) (call : CallF) (N : Nat) (md : Bool) :
    ∀ (m i n : Nat) (h : Heap), i + m = L.length → m < n → h[p]? = some (rv r lasts.length y f w) → (lasts ≠ [] → ∃ us, h[r]? = some (.row 22 us) ∧ BsL us (land lasts (L.take i))) →
    ∃ h', (∀ K : Ex → List AV → Heap → Option (AV × Heap), loopK (fun next => runK C0 call md 55 N B55_1 (seqE next K)) n (st 63 [(0, rp p), (3, .int .i64 i)]) h =
      K (.exit 0) (st 63 [(0, rp p), (3, .int .i64 L.length), (36, .bool false)]) h') ∧
      h'[p]? = some (rv r lasts.length y f w) ∧ (lasts ≠ [] → ∃ us, h'[r]? = some (.row 22 us) ∧ BsL us (land lasts L)) ∧ Keep S h h' := by
  have hlen := len72 hy
  rw [hv.length] at hlen
  intro m
  induction m with
  | zero =>
    intro i n h hi hn hp hr
    obtain ⟨n, rfl⟩ : ∃ j, n = j + 1 := ⟨n - 1, by omega⟩
    obtain rfl : i = L.length := by omega
    refine ⟨h, fun K => ?_, hp, by simpa using hr, Keep.refl _ _⟩
    rw [loopK_succ]
    generalize loopK (_ : (List AV → Heap → Option (AV × Heap)) → List AV → Heap → Option (AV × Heap)) n = Lp
    have e : decide (((L.length : Nat) : Int) < (L.length : Nat)) = false := decide_eq_false (by omega)
    simp -implicitDefEqProofs only [B55_1, ↓RK, RK, ↓RB, RB, decide_true, decide_false, STs, Nat.reduceBEq, ↓reduceIte, Nat.reduceLT, ↓R55, R55, rp_chk, rpf1, rld1 hp, hlen, bin_lss, e]
  | succ m ih =>
    intro i n h hi hn hp hr
    obtain ⟨n, rfl⟩ : ∃ j, n = j + 1 := ⟨n - 1, by omega⟩
    have hlt : i < L.length := by omega
    have hw : L[i]? = some L[i] := List.getElem?_eq_getElem hlt
    have hwl := hws _ (List.getElem_mem hlt)
    have tk : L.take (i + 1) = L.take i ++ [L[i]] := by rw [List.take_add_one, hw]; rfl
    have e : decide (((i : Nat) : Int) < (L.length : Nat)) = true := decide_eq_true (by omega)
    have wr : IntKind.i64.wrap ((i : Int) + 1) = ((i + 1 : Nat) : Int) := by rw [wrap_i64] <;> omega
    obtain ⟨v, hv1, bv⟩ := hv.get hw
    generalize L[i] = u at *
    have hne : lasts ≠ [] := by intro e; rw [e] at hwl; simp at hwl
    obtain ⟨us, hus, bus⟩ := hr hne
    have hul : us.length = lasts.length := by rw [bus.length, land_length]
    have sr := store_row (i := u.1) hus (by omega) bv.fits
    have hrp : r ≠ p := by intro e; subst e; rw [hp] at hus; cases hus
    have k2 : Keep S h (h.set r (.row 22 (us.set u.1 v))) := Keep.set h _ (hs hne)
    have hp2 : (h.set r (.row 22 (us.set u.1 v)))[p]? = some (rv r lasts.length y f w) := by rw [List.getElem?_set_ne hrp]; exact hp
    have hr2 : (h.set r (.row 22 (us.set u.1 v)))[r]? = some (.row 22 (us.set u.1 v)) := by simp [(List.getElem?_eq_some_iff.1 hus).1]
    obtain ⟨h', g1, g2, g3, g4⟩ := ih (i + 1) n _ (by omega) (by omega) hp2 (fun _ => ⟨_, hr2, by rw [tk, land_snoc]; exact bus.set _ bv⟩)
    refine ⟨h', fun K => ?_, g2, g3, k2.trans g4⟩
    rw [loopK_succ, ← g1 K]
    generalize loopK (_ : (List AV → Heap → Option (AV × Heap)) → List AV → Heap → Option (AV × Heap)) n = Lp
    simp -implicitDefEqProofs only [B55_1, ↓RK, RK, ↓RB, RB, decide_true, decide_false, STs, Nat.reduceBEq, ↓reduceIte, Nat.reduceLT, ↓R55, R55, rp_chk, rpf1, rld1 hp, hlen, bin_lss, e, rpf0, rld0 hp, idx72 hy hv1, fa112v_0, load3v, fa112v_1, load22v, idxs r _ u.1 hwl, sr, bin_add, wr]
theorem frn0 (p : Nat) : ([rp p] ++ List.replicate (63 - [rp p].length) AV.undef) = st 63 [(0, rp p)] := rfl
theorem rflush_ok {S : Obs} {p r : Nat} {h : Heap} {d : Dk} (D : Rsk S h p r d) (hl : d.loose.length < 2 ^ 30) (hf : d.fuse < 2 ^ 63) (md : Bool) (k : Nat) (hk : d.loose.length < k) :
    ∃ h', exFn C0 E0 (k + 1) md 55 [rp p] h = some (.int .i64 d.rflush.1, h') ∧ Rsk S h' p r d.rflush.2 ∧ Keep S h h' := by
  obtain ⟨y, vs, hy, ha, hls⟩ := D.var
  have hlt : p < h.length := (List.getElem?_eq_some_iff.1 hy).1
  unfold Dk.rflush
  by_cases h3 : d.off
  · rw [if_pos h3]
    refine ⟨_, exFn_of e55 ?_, D.upd hy ha hls d.fuse true, Keep.set h _ D.hp⟩
    rw [fnK, frn0, s55]
    cases hd : d.down
    · have e3 : decide (d.fuse = 0) = true := decide_eq_true (by rcases h3 with h3 | h3; rw [hd] at h3; cases h3; exact h3)
      rw [hd] at hy
      simp -implicitDefEqProofs only [↓RK, RK, ↓RB, RB, decide_true, decide_false, STs, Nat.reduceBEq, ↓reduceIte, Nat.reduceLT, ↓R55, R55, rp_chk, rpf3, rld3 hy, rpf2, rld2 hy, bin_eql, e3, rst3 hy]
    · rw [hd] at hy
      simp -implicitDefEqProofs only [↓RK, RK, ↓RB, RB, decide_true, decide_false, STs, Nat.reduceBEq, ↓reduceIte, Nat.reduceLT, ↓R55, R55, rp_chk, rpf3, rld3 hy, rst3 hy]
  rw [if_neg h3]
  have hd : d.down = false := by
    cases hd : d.down
    · rfl
    · exact absurd (.inl hd) h3
  have hf0 : d.fuse ≠ 0 := fun e => h3 (.inr e)
  have e3 : decide (d.fuse = 0) = false := decide_eq_false hf0
  have D1 : Rsk S (h.set p (rv r d.lasts.length y d.rburn.fuse d.down)) p r d.rburn := D.upd hy ha hls _ _
  have k1 : Keep S h (h.set p (rv r d.lasts.length y d.rburn.fuse d.down)) := Keep.set h _ D.hp
  have hy1 : (h.set p (rv r d.lasts.length y d.rburn.fuse d.down))[p]? = some (rv r d.lasts.length y d.rburn.fuse d.down) := by simp [hlt]
  have hset : d.fuse < 0 → h.set p (rv r d.lasts.length y d.rburn.fuse d.down) = h := by
    intro hneg
    have : d.rburn.fuse = d.fuse := by simp only [Dk.rburn]; rw [if_neg (by omega)]
    rw [this]
    apply List.ext_getElem?
    intro i
    by_cases hi : p = i
    · subst hi; rw [List.getElem?_set_self hlt, hy]
    · rw [List.getElem?_set_ne hi]
  have st2 : 0 < d.fuse → aStore tab 3 (.ref p [2] 3) (.int .i64 (d.fuse - 1)) h = some (h.set p (rv r d.lasts.length y d.rburn.fuse d.down)) := by
    intro hpos
    have : d.rburn.fuse = d.fuse - 1 := by simp only [Dk.rburn]; rw [if_pos hpos]
    rw [this]
    exact rst2 hy _
  generalize h.set p (rv r d.lasts.length y d.rburn.fuse d.down) = H1 at *
  obtain ⟨H2, f1, f2, f3, f4⟩ := rflush_loop (f := d.rburn.fuse) (w := d.down) ha hls hl (fun w hw => (D.loose w hw).1) D.hr (exFn C0 E0 k) k md d.loose.length 0 k H1 (by omega) hk hy1
    (fun hne => by obtain ⟨us, hu, bu⟩ := D1.row hne; exact ⟨us, hu, by simpa [land] using (show BsL us d.lasts from bu)⟩)
  rw [show ((0 : Nat) : Int) = 0 from rfl] at f1
  have hlt2 : p < H2.length := (List.getElem?_eq_some_iff.1 f2).1
  have hnl : d.now.length = d.lasts.length := land_length _ _
  refine ⟨H2.set p (rv r d.lasts.length .nils d.rburn.fuse d.down), exFn_of e55 ?_, ?_, (k1.trans f4).trans (Keep.set H2 _ D.hp)⟩
  · rw [fnK, frn0, s55]
    have hy' := hy
    rw [hd] at hy'
    rcases Int.lt_or_gt_of_ne hf0 with hneg | hpos
    · have e4 : decide (0 < d.fuse) = false := decide_eq_false (by omega)
      have hH := hset hneg
      subst hH
      simp -implicitDefEqProofs only [↓RK, RK, ↓RB, RB, decide_true, decide_false, STs, Nat.reduceBEq, ↓reduceIte, Nat.reduceLT, ↓R55, R55, rp_chk, rpf3, rld3 hy', rpf2, rld2 hy, bin_eql, e3, bin_gtr, e4]
      rw [f1]
      simp -implicitDefEqProofs only [↓RK, RK, ↓RB, RB, decide_true, decide_false, STs, Nat.reduceBEq, ↓reduceIte, Nat.reduceLT, ↓R55, R55, rp_chk, rpf1, rst1 f2 (y := .nils) rfl]
    · have e4 : decide (0 < d.fuse) = true := decide_eq_true hpos
      have wr : IntKind.i64.wrap (d.fuse - 1) = d.fuse - 1 := by rw [wrap_i64] <;> omega
      simp -implicitDefEqProofs only [↓RK, RK, ↓RB, RB, decide_true, decide_false, STs, Nat.reduceBEq, ↓reduceIte, Nat.reduceLT, ↓R55, R55, rp_chk, rpf3, rld3 hy', rpf2, rld2 hy, bin_eql, e3, bin_gtr, e4, bin_sub, wr, st2 hpos]
      rw [f1]
      simp -implicitDefEqProofs only [↓RK, RK, ↓RB, RB, decide_true, decide_false, STs, Nat.reduceBEq, ↓reduceIte, Nat.reduceLT, ↓R55, R55, rp_chk, rpf1, rst1 f2 (y := .nils) rfl]
  · refine ⟨D.hp, fun hne => D.hr (by intro e; apply hne; simpa [e] using hnl), ⟨.nils, [], ?_, .inl ⟨rfl, rfl⟩, .nil⟩, fun hne => ?_, land_cells _ _ D.cells fun w hw => (D.loose w hw).2, fun w hw => (List.not_mem_nil hw).elim, by show d.now.length ≤ 1024; rw [hnl]; exact D.few⟩
    · rw [List.getElem?_set_self hlt2, hnl]
    · have hne' : d.lasts ≠ [] := by intro e; apply hne; simpa [e] using hnl
      obtain ⟨us, hr, bu⟩ := f3 hne'
      refine ⟨us, ?_, bu⟩
      rw [List.getElem?_set_ne]
      · exact hr
      · intro e
        subst e
        rw [f2] at hr
        cases hr
def Dk.rread (d : Dk) (i : Int) : List UInt8 := if d.has i then (d.now[i.toNat]?).getD [] else List.replicate 64 0
theorem zerosl : aZeroSl tab 22 (.int .i64 64) (.int .i64 64) = some (.vsl 5 ((List.replicate 64 (0 : UInt8)).map U8) .none) := by kernel_rfl
theorem rread_loop {S : Obs} {p r : Nat} {h : Heap} {d : Dk} (D : Rsk S h p r d) (hl : d.loose.length < 2 ^ 30) (i : Nat) (hi : i < d.lasts.length) (call : CallF) (md : Bool) (N : Nat) :
    ∀ (m j n : Nat) (b : AV), j + m = d.loose.length → m < n → Bs b (((land d.lasts (d.loose.take j))[i]?).getD []) →
    ∃ b', (∀ K : Ex → List AV → Heap → Option (AV × Heap), loopK (fun next => runK C0 call md 57 N B57_1 (seqE next K)) n (st 54 [(0, rp p), (1, .int .i64 i), (5, b), (6, .int .i64 j)]) h =
      K (.exit 0) (st 54 [(0, rp p), (1, .int .i64 i), (5, b'), (6, .int .i64 d.loose.length), (32, .bool false)]) h) ∧ Bs b' ((d.now[i]?).getD []) := by
  obtain ⟨x, vs, hx, ha, hv⟩ := D.var
  have hlen := len72 ha
  rw [hv.length] at hlen
  intro m
  induction m with
  | zero =>
    intro j n b hj hn hb
    obtain ⟨n, rfl⟩ : ∃ j, n = j + 1 := ⟨n - 1, by omega⟩
    obtain rfl : j = d.loose.length := by omega
    refine ⟨b, fun K => ?_, by rw [List.take_length] at hb; exact hb⟩
    rw [loopK_succ]
    generalize loopK (_ : (List AV → Heap → Option (AV × Heap)) → List AV → Heap → Option (AV × Heap)) n = Lp
    have e : decide (((d.loose.length : Nat) : Int) < (d.loose.length : Nat)) = false := decide_eq_false (by omega)
    simp -implicitDefEqProofs only [B57_1, ↓RK, RK, ↓RB, RB, decide_true, decide_false, STs, Nat.reduceBEq, ↓reduceIte, Nat.reduceLT, ↓R57, R57, rp_chk, rpf1, rld1 hx, hlen, bin_lss, e]
  | succ m ih =>
    intro j n b hj hn hb
    obtain ⟨n, rfl⟩ : ∃ j, n = j + 1 := ⟨n - 1, by omega⟩
    have hlt : j < d.loose.length := by omega
    have hw : d.loose[j]? = some d.loose[j] := List.getElem?_eq_getElem hlt
    have tk : d.loose.take (j + 1) = d.loose.take j ++ [d.loose[j]] := by rw [List.take_add_one, hw]; rfl
    have e : decide (((j : Nat) : Int) < (d.loose.length : Nat)) = true := decide_eq_true (by omega)
    have wr : IntKind.i64.wrap ((j : Int) + 1) = ((j + 1 : Nat) : Int) := by rw [wrap_i64] <;> omega
    obtain ⟨v, hv1, bv⟩ := hv.get hw
    generalize d.loose[j] = u at *
    by_cases hu : u.1 = i
    · have e1 : decide (((u.1 : Nat) : Int) = (i : Nat)) = true := decide_eq_true (by omega)
      obtain ⟨b', g1, g2⟩ := ih (j + 1) n v (by omega) (by omega) (by rw [tk, land_snoc, hu, List.getElem?_set_self (by rw [land_length]; exact hi)]; exact bv)
      refine ⟨b', fun K => ?_, g2⟩
      rw [loopK_succ, ← g1 K]
      generalize loopK (_ : (List AV → Heap → Option (AV × Heap)) → List AV → Heap → Option (AV × Heap)) n = Lp
      simp -implicitDefEqProofs only [B57_1, ↓RK, RK, ↓RB, RB, decide_true, decide_false, STs, Nat.reduceBEq, ↓reduceIte, Nat.reduceLT, ↓R57, R57, rp_chk, rpf1, rld1 hx, hlen, bin_lss, e, idx72 ha hv1, fa112v_0, load3v, bin_eql, e1, fa112v_1, load22v, bin_add, wr]
    · have e1 : decide (((u.1 : Nat) : Int) = (i : Nat)) = false := decide_eq_false (by omega)
      obtain ⟨b', g1, g2⟩ := ih (j + 1) n b (by omega) (by omega) (by rw [tk, land_snoc, List.getElem?_set_ne hu]; exact hb)
      refine ⟨b', fun K => ?_, g2⟩
      rw [loopK_succ, ← g1 K]
      generalize loopK (_ : (List AV → Heap → Option (AV × Heap)) → List AV → Heap → Option (AV × Heap)) n = Lp
      simp -implicitDefEqProofs only [B57_1, ↓RK, RK, ↓RB, RB, decide_true, decide_false, STs, Nat.reduceBEq, ↓reduceIte, Nat.reduceLT, ↓R57, R57, rp_chk, rpf1, rld1 hx, hlen, bin_lss, e, idx72 ha hv1, fa112v_0, load3v, bin_eql, e1, bin_add, wr]
theorem rread_ok {S : Obs} {p r : Nat} {h : Heap} {d : Dk} (D : Rsk S h p r d) (hl : d.loose.length < 2 ^ 30) (i : Int) (md : Bool) (k : Nat) (hk : d.loose.length < k) :
    ∃ v, exFn C0 E0 (k + 1) md 57 [rp p, .int .i64 i] h = some (v, h) ∧ Bs v (d.rread i) := by
  obtain ⟨x, vs, hx, ha, hv⟩ := D.var
  have n0 : ([rp p, .int .i64 i] ++ List.replicate (54 - [rp p, .int .i64 i].length) AV.undef) = st 54 [(0, rp p), (1, .int .i64 i)] := rfl
  unfold Dk.rread
  by_cases h0 : d.has i
  · rw [if_pos h0]
    obtain ⟨n, rfl⟩ : ∃ n : Nat, i = n := ⟨i.toNat, by have := h0.1; omega⟩
    have hn : n < d.lasts.length := by have := h0.2; omega
    have q1 : decide ((n : Int) < 0) = false := decide_eq_false (by omega)
    have q2 : decide (((d.lasts.length : Nat) : Int) ≤ (n : Int)) = false := decide_eq_false (by omega)
    have hne : d.lasts ≠ [] := by intro e; rw [e] at hn; simp at hn
    obtain ⟨us, hu, bu⟩ := D.row hne
    obtain ⟨v, hv1, bv⟩ := bu.get (List.getElem?_eq_getElem hn)
    obtain ⟨b', g1, g2⟩ := rread_loop D hl n hn (exFn C0 E0 k) md k d.loose.length 0 k v (by omega) hk (by simpa [land, hn] using bv)
    rw [show ((0 : Nat) : Int) = 0 from rfl] at g1
    refine ⟨b', exFn_of e57 ?_, g2⟩
    rw [fnK, n0, s57]
    simp -implicitDefEqProofs only [↓RK, RK, ↓RB, RB, decide_true, decide_false, STs, Nat.reduceBEq, ↓reduceIte, Nat.reduceLT, ↓R57, R57, bin_lss, q1, rp_chk, rpf0, rld0 hx, lens, bin_geq, q2, idxs r _ n hn, load_row hu hv1]
    rw [g1]
    simp -implicitDefEqProofs only [↓RK, RK, ↓RB, RB, decide_true, decide_false, STs, Nat.reduceBEq, ↓reduceIte, Nat.reduceLT, ↓R57, R57]
  · rw [if_neg h0]
    refine ⟨_, exFn_of e57 ?_, .inr ⟨.none, rfl⟩⟩
    rw [fnK, n0, s57]
    by_cases q : i < 0
    · simp -implicitDefEqProofs only [↓RK, RK, ↓RB, RB, decide_true, decide_false, STs, Nat.reduceBEq, ↓reduceIte, Nat.reduceLT, ↓R57, R57, bin_lss, decide_eq_true q, zerosl]
    · have q2 : ((d.lasts.length : Nat) : Int) ≤ i := by unfold Dk.has at h0; omega
      simp -implicitDefEqProofs only [↓RK, RK, ↓RB, RB, decide_true, decide_false, STs, Nat.reduceBEq, ↓reduceIte, Nat.reduceLT, ↓R57, R57, bin_lss, decide_eq_false q, rp_chk, rpf0, rld0 hx, lens, bin_geq, decide_eq_true q2, zerosl]
theorem rend_ok {S : Obs} {p r : Nat} {h : Heap} {d : Dk} (D : Rsk S h p r d) (e : Int) (md : Bool) (k : Nat) : exFn C0 E0 (k + 1) md 56 [rp p, .int .i64 e] h = some (.int .i64 (min e d.lasts.length), h) := by
  obtain ⟨x, vs, hx, -, -⟩ := D.var
  refine exFn_of e56 ?_
  rw [fnK, show ([rp p, .int .i64 e] ++ List.replicate (18 - [rp p, .int .i64 e].length) AV.undef) = st 18 [(0, rp p), (1, .int .i64 e)] from rfl, s56]
  by_cases q : ((d.lasts.length : Nat) : Int) < e
  · rw [show min e ((d.lasts.length : Nat) : Int) = ((d.lasts.length : Nat) : Int) by omega]
    simp -implicitDefEqProofs only [↓RK, RK, ↓RB, RB, decide_true, decide_false, STs, Nat.reduceBEq, ↓reduceIte, Nat.reduceLT, ↓R56, R56, rp_chk, rpf0, rld0 hx, lens, bin_gtr, decide_eq_true q]
  · rw [show min e ((d.lasts.length : Nat) : Int) = e by omega]
    simp -implicitDefEqProofs only [↓RK, RK, ↓RB, RB, decide_true, decide_false, STs, Nat.reduceBEq, ↓reduceIte, Nat.reduceLT, ↓R56, R56, rp_chk, rpf0, rld0 hx, lens, bin_gtr, decide_eq_false q]
end Go.Ax

set_option linter.unusedVariables false
namespace Go.Ax
open Go Go.Proofs
noncomputable def O39 (i : Nat) : Array Oper := opsOf i (bodyOf Try.f39)
noncomputable def B39_1 : Code := (.seq (.seq (.region 7 (O39 7) false) (.cond (Go.Operand.tmp 13) .skip (.exit 0))) (.seq (.block 1 (.region 9 (O39 9) true)) (.region 8 (O39 8) false)))
theorem s39 : bodyOf Try.f39 = (.seq (.region 0 (O39 0) false) (.seq (.seq (.region 1 (O39 1) false) (.cond (Go.Operand.tmp 6) (.region 2 (O39 2) false) .skip)) (.seq (.seq (.region 3 (O39 3) false) (.cond (Go.Operand.tmp 8) (.region 4 (O39 4) false) .skip)) (.seq (.region 5 (O39 5) false) (.seq (.seq (.region 6 (O39 6) false) (.block 0 (.loop B39_1))) (.seq (.region 10 (O39 10) false) .ret)))))) := by kernel_rfl
theorem e39 : E0 39 = some ⟨27, [2], bodyOf Try.f39⟩ := by kernel_rfl
theorem r39_0 (x0 : AV) : RR O39 39 27 0 false [(0, x0)] fun _ call md k h =>
 k .normal (st 27 [(0, x0)]) h
 := fun _ _ _ _ _ _ => by kernel_rfl
theorem r39_1 (x0 : AV) : RR O39 39 27 1 false [(0, x0)] fun _ call md k h =>
 bnd (aBinC tab .lss 3 x0 (.int .i64 0) true) fun v1 =>
 k .normal (st 27 [(0, x0), (6, v1)]) h
 := fun _ _ _ _ _ _ => by kernel_rfl
theorem r39_2 (x0 x6 : AV) : RR O39 39 27 2 false [(0, x0), (6, x6)] fun _ call md k h =>
 k .normal (st 27 [(0, (.int .i64 0))]) h
 := fun _ _ _ _ _ _ => by kernel_rfl
theorem r39_3a (x0 x6 : AV) : RR O39 39 27 3 false [(0, x0), (6, x6)] fun _ call md k h =>
 bnd (aBinC tab .gtr 3 x0 (.int .i64 1024) true) fun v1 =>
 k .normal (st 27 [(0, x0), (8, v1)]) h
 := fun _ _ _ _ _ _ => by kernel_rfl
theorem r39_3b (x0 : AV) : RR O39 39 27 3 false [(0, x0)] fun _ call md k h =>
 bnd (aBinC tab .gtr 3 x0 (.int .i64 1024) true) fun v1 =>
 k .normal (st 27 [(0, x0), (8, v1)]) h
 := fun _ _ _ _ _ _ => by kernel_rfl
theorem r39_4 (x0 x8 : AV) : RR O39 39 27 4 false [(0, x0), (8, x8)] fun _ call md k h =>
 k .normal (st 27 [(0, (.int .i64 1024))]) h
 := fun _ _ _ _ _ _ => by kernel_rfl
theorem r39_5a (x0 x8 : AV) : RR O39 39 27 5 false [(0, x0), (8, x8)] fun _ call md k h =>
 bnd (aBuild tab 74 [(2, (.int .i64 (-1)))]) fun v1 =>
 bnd2 (aBoxv tab 74 v1 h) fun v2 h3 =>
 k .normal (st 27 [(0, x0), (3, v2)]) h3
 := fun _ _ _ _ _ _ => by kernel_rfl
theorem r39_5b (x0 : AV) : RR O39 39 27 5 false [(0, x0)] fun _ call md k h =>
 bnd (aBuild tab 74 [(2, (.int .i64 (-1)))]) fun v1 =>
 bnd2 (aBoxv tab 74 v1 h) fun v2 h3 =>
 k .normal (st 27 [(0, x0), (3, v2)]) h3
 := fun _ _ _ _ _ _ => by kernel_rfl
theorem r39_6 (x0 x3 : AV) : RR O39 39 27 6 false [(0, x0), (3, x3)] fun _ call md k h =>
 k .normal (st 27 [(0, x0), (3, x3), (4, (.int .i64 0))]) h
 := fun _ _ _ _ _ _ => by kernel_rfl
theorem r39_7 (x0 x3 x4 : AV) : RR O39 39 27 7 false [(0, x0), (3, x3), (4, x4)] fun _ call md k h =>
 bnd (aBinC tab .lss 3 x4 x0 false) fun v1 =>
 k .normal (st 27 [(0, x0), (3, x3), (4, x4), (13, v1)]) h
 := fun _ _ _ _ _ _ => by kernel_rfl
theorem r39_8 (x0 x3 x4 : AV) : RR O39 39 27 8 false [(0, x0), (3, x3), (4, x4)] fun _ call md k h =>
 bnd (aBinC tab .add 3 x4 (.int .i64 1) true) fun v1 =>
 k .normal (st 27 [(0, x0), (3, x3), (4, v1)]) h
 := fun _ _ _ _ _ _ => by kernel_rfl
theorem r39_9 (x0 x3 x4 x13 : AV) : RR O39 39 27 9 true [(0, x0), (3, x3), (4, x4), (13, x13)] fun _ call md k h =>
 bnd (aNil x3) fun v1 =>
 bnd (aFieldAddr tab 74 v1 0) fun v2 =>
 bnd (aLoad tab 30 v2 h) fun v3 =>
 bnd (aZeroSl tab 22 (.int .i64 64) (.int .i64 64)) fun v4 =>
 bnd (aLit tab 30 1 [(0, v4)]) fun v5 =>
 bnd2 (aApp tab 30 30 true v3 v5 h) fun v6 h7 =>
 bnd (aNil x3) fun v8 =>
 bnd (aFieldAddr tab 74 v8 0) fun v9 =>
 bnd (aStore tab 30 v9 v6 h7) fun h10 =>
 k .normal (st 27 [(0, x0), (3, x3), (4, x4)]) h10
 := RRd (by kernel_rfl) (by kernel_rfl) (fun _ _ _ _ _ => by kernel_rfl)
theorem r39_10 (x0 x3 x4 x13 : AV) : RR O39 39 27 10 false [(0, x0), (3, x3), (4, x4), (13, x13)] fun _ call md k h =>
 k .normal (st 27 [(2, x3)]) h
 := fun _ _ _ _ _ _ => by kernel_rfl
def R39 := And.intro @r39_0 <| And.intro @r39_1 <| And.intro @r39_2 <| And.intro @r39_3a <| And.intro @r39_3b <| And.intro @r39_4 <| And.intro @r39_5a <| And.intro @r39_5b <| And.intro @r39_6 <| And.intro @r39_7 <| And.intro @r39_8 <| And.intro @r39_9 <| @r39_10
end Go.Ax

namespace Go.Ax
open Go Go.Proofs
def zv : AV := .vsl 5 ((List.replicate 64 (0 : UInt8)).map U8) .none
theorem zv_bs : Bs zv (List.replicate 64 0) := .inr ⟨_, rfl⟩
theorem rst0 {h : Heap} {p r n : Nat} {x : AV} {f : Int} {w : Bool} (hp : h[p]? = some (rv r n x f w)) (r' m : Nat) (hm : 0 < m) :
    aStore tab 30 (.ref p [0] 30) (.msl r' [] 22 0 m) h = some (h.set p (rv r' m x f w)) := by
  have := store_fld (i := 0) (ty := 30) (u' := 30) (x := .msl r' [] 22 0 m) hp rfl (by simp) rfl
  rw [this]
  simp [rv, sAV, show m ≠ 0 by omega]
theorem app30m (x : AV) (new : List AV) (k : Tok) (h : Heap) : aApp tab 30 30 true x (.vsl 22 new k) h = aAppend tab 22 true x new h := by kernel_rfl
theorem bld74 : aBuild tab 74 [(2, .int .i64 (-1))] = some (.agg 73 [.nils, .nils, .int .i64 (-1), .bool false]) := by kernel_rfl
theorem box74 (h : Heap) : aBoxv tab 74 (.agg 73 [.nils, .nils, .int .i64 (-1), .bool false]) h = some (rp h.length, h ++ [rv 0 0 .nils (-1) false]) := by
  simp [aBoxv, fits, rv, sAV]
theorem app_row {h : Heap} {r n : Nat} (hn : n < 1024) (hr : n ≠ 0 → h[r]? = some (.row 22 (List.replicate n zv))) :
    ∃ H, aAppend tab 22 true (sAV r n) [zv] h = some (.msl h.length [] 22 0 (n + 1), H) ∧ H[h.length]? = some (.row 22 (List.replicate (n + 1) zv)) ∧ H.length = h.length + 1 ∧ ∀ i, i < h.length → (n ≠ 0 → i ≠ r) → H[i]? = h[i]? := by
  by_cases h0 : n = 0
  · subst h0
    refine ⟨h ++ [.row 22 [zv]], ?_, by simp, by simp, fun i hi _ => List.getElem?_append_left hi⟩
    simp [aAppend, sAV]
  · refine ⟨h.set r .dead ++ [.row 22 (List.replicate n zv ++ [zv])], ?_, ?_, by simp, fun i hi hne => ?_⟩
    · simp only [aAppend, sAV, if_neg h0, hr h0]
      rw [if_pos ⟨⟨by simp, by simp, by simp⟩, by simp; omega, by simp; omega, by simp, by simp⟩]
      simp
    · rw [List.getElem?_append_right (by simp)]
      simp [List.replicate_succ']
    · rw [List.getElem?_append_left (by simpa using hi), List.getElem?_set_ne (by have := hne h0; omega)]
theorem rnew_loop {b p N : Nat} (hb : b ≤ p) (hN : N ≤ 1024) (call : CallF) (FN : Nat) :
    ∀ (m i n r : Nat) (h : Heap), i + m = N → m < n → b ≤ h.length → h[p]? = some (rv r i .nils (-1) false) → (i ≠ 0 → h[r]? = some (.row 22 (List.replicate i zv)) ∧ b ≤ r) →
    ∃ r' h', (∀ K : Ex → List AV → Heap → Option (AV × Heap), loopK (fun next => runK C0 call false 39 FN B39_1 (seqE next K)) n (st 27 [(0, .int .i64 N), (3, rp p), (4, .int .i64 i)]) h =
      K (.exit 0) (st 27 [(0, .int .i64 N), (3, rp p), (4, .int .i64 N), (13, .bool false)]) h') ∧
      h'[p]? = some (rv r' N .nils (-1) false) ∧ (N ≠ 0 → h'[r']? = some (.row 22 (List.replicate N zv)) ∧ b ≤ r') ∧ Keep (From b) h h' := by
  intro m
  induction m with
  | zero =>
    intro i n r h hi hn hbl hp hr
    obtain ⟨n, rfl⟩ : ∃ j, n = j + 1 := ⟨n - 1, by omega⟩
    obtain rfl : i = N := by omega
    refine ⟨r, h, fun K => ?_, hp, hr, Keep.refl _ _⟩
    rw [loopK_succ]
    generalize loopK (_ : (List AV → Heap → Option (AV × Heap)) → List AV → Heap → Option (AV × Heap)) n = Lp
    have e : decide (((i : Nat) : Int) < (i : Nat)) = false := decide_eq_false (by omega)
    simp -implicitDefEqProofs only [B39_1, ↓RK, RK, ↓RB, RB, decide_true, decide_false, STs, Nat.reduceBEq, ↓reduceIte, Nat.reduceLT, ↓R39, R39, bin_lss, e]
  | succ m ih =>
    intro i n r h hi hn hbl hp hr
    obtain ⟨n, rfl⟩ : ∃ j, n = j + 1 := ⟨n - 1, by omega⟩
    have e : decide (((i : Nat) : Int) < (N : Nat)) = true := decide_eq_true (by omega)
    have wr : IntKind.i64.wrap ((i : Int) + 1) = ((i + 1 : Nat) : Int) := by rw [wrap_i64] <;> omega
    obtain ⟨H, ap, hnew, hlen, hold⟩ := app_row (h := h) (r := r) (n := i) (by omega) (fun h0 => (hr h0).1)
    have hlt := (List.getElem?_eq_some_iff.1 hp).1
    have hpr : i ≠ 0 → p ≠ r := by
      intro h0 e
      subst e
      have := (hr h0).1
      rw [hp] at this
      cases this
    have hp1 : H[p]? = some (rv r i .nils (-1) false) := by rw [hold p hlt hpr]; exact hp
    have k1 : Keep (From b) h H := ⟨by omega, fun j hj => hold j (by unfold From at hj; omega) (fun h0 e => hj (by subst e; exact (hr h0).2))⟩
    have k2 : Keep (From b) H (H.set p (rv h.length (i + 1) .nils (-1) false)) := Keep.set H _ hb
    have hltH : p < H.length := by omega
    obtain ⟨r', h', g1, g2, g3, g4⟩ := ih (i + 1) n h.length (H.set p (rv h.length (i + 1) .nils (-1) false)) (by omega) (by omega) (by simp; omega) (by simp [hltH])
      (fun _ => ⟨by rw [List.getElem?_set_ne (by omega)]; exact hnew, hbl⟩)
    refine ⟨r', h', fun K => ?_, g2, g3, (k1.trans k2).trans g4⟩
    rw [loopK_succ, ← g1 K]
    generalize loopK (_ : (List AV → Heap → Option (AV × Heap)) → List AV → Heap → Option (AV × Heap)) n = Lp
    have zs : aZeroSl tab 22 (.int .i64 64) (.int .i64 64) = some zv := zerosl
    simp -implicitDefEqProofs only [B39_1, ↓RK, RK, ↓RB, RB, decide_true, decide_false, STs, Nat.reduceBEq, ↓reduceIte, Nat.reduceLT, ↓R39, R39, bin_lss, e, rp_chk, rpf0, rld0 hp, zs, lit30 zv rfl, app30m, ap, rst0 hp1 h.length (i + 1) (by omega), bin_add, wr]
theorem bsL_rep : ∀ n, BsL (List.replicate n zv) (List.replicate n (List.replicate 64 0))
  | 0 => .nil
  | n + 1 => .cons zv_bs (bsL_rep n)
theorem rnew_ok (n : Int) (h : Heap) (k : Nat) (hk : 1030 < k) :
    ∃ p r h', exFn C0 E0 (k + 1) false 39 [.int .i64 n] h = some (rp p, h') ∧ Rsk (From h.length) h' p r (Dk.new n) ∧ Keep (From h.length) h h' := by
  have n0 : ([AV.int .i64 n] ++ List.replicate (27 - [AV.int .i64 n].length) AV.undef) = st 27 [(0, .int .i64 n)] := rfl
  have hN : newN n ≤ 1024 := by unfold newN; omega
  have k0 : Keep (From h.length) h (h ++ [rv 0 0 .nils (-1) false]) := Keep.app h _ (Up.fresh h)
  obtain ⟨r', h', g1, g2, g3, g4⟩ := rnew_loop (b := h.length) (p := h.length) (N := newN n) (Nat.le_refl _) hN (exFn C0 E0 k) k (newN n) 0 k 0 (h ++ [rv 0 0 .nils (-1) false]) (by omega) (by omega) (by simp) (by simp) (fun h0 => absurd rfl h0)
  rw [show ((0 : Nat) : Int) = 0 from rfl] at g1
  refine ⟨h.length, r', h', exFn_of e39 ?_, ?_, k0.trans g4⟩
  · rw [fnK, n0, s39]
    by_cases q : n < 0
    · have hn0 : ((newN n : Nat) : Int) = 0 := by unfold newN; omega
      rw [hn0] at g1
      have e2 : decide ((1024 : Int) < 0) = false := by decide
      simp -implicitDefEqProofs only [↓RK, RK, ↓RB, RB, decide_true, decide_false, STs, Nat.reduceBEq, ↓reduceIte, Nat.reduceLT, ↓R39, R39, bin_lss, decide_eq_true q, bin_gtr, e2, bld74, box74]
      rw [g1]
      simp -implicitDefEqProofs only [↓RK, RK, ↓RB, RB, decide_true, decide_false, STs, Nat.reduceBEq, ↓reduceIte, Nat.reduceLT, ↓R39, R39]
    · by_cases q2 : 1024 < n
      · have hn0 : ((newN n : Nat) : Int) = 1024 := by unfold newN; omega
        rw [hn0] at g1
        simp -implicitDefEqProofs only [↓RK, RK, ↓RB, RB, decide_true, decide_false, STs, Nat.reduceBEq, ↓reduceIte, Nat.reduceLT, ↓R39, R39, bin_lss, decide_eq_false q, bin_gtr, decide_eq_true q2, bld74, box74]
        rw [g1]
        simp -implicitDefEqProofs only [↓RK, RK, ↓RB, RB, decide_true, decide_false, STs, Nat.reduceBEq, ↓reduceIte, Nat.reduceLT, ↓R39, R39]
      · have hn0 : ((newN n : Nat) : Int) = n := by unfold newN; omega
        rw [hn0] at g1
        simp -implicitDefEqProofs only [↓RK, RK, ↓RB, RB, decide_true, decide_false, STs, Nat.reduceBEq, ↓reduceIte, Nat.reduceLT, ↓R39, R39, bin_lss, decide_eq_false q, bin_gtr, decide_eq_false q2, bld74, box74]
        rw [g1]
        simp -implicitDefEqProofs only [↓RK, RK, ↓RB, RB, decide_true, decide_false, STs, Nat.reduceBEq, ↓reduceIte, Nat.reduceLT, ↓R39, R39]
  · have hne : ∀ {x : Nat}, List.replicate x (List.replicate 64 (0 : UInt8)) ≠ [] → x ≠ 0 := fun h e => h (by rw [e]; rfl)
    refine ⟨Nat.le_refl _, fun hx => (g3 (hne hx)).2, ⟨.nils, [], ?_, .inl ⟨rfl, rfl⟩, .nil⟩, fun hx => ⟨_, (g3 (hne hx)).1, bsL_rep _⟩, fun b hb => ?_, fun w hw => by simp [Dk.new] at hw, by simpa [Dk.new] using hN⟩
    · rw [g2]; simp [Dk.new]
    · simp only [Dk.new, List.mem_replicate] at hb
      rw [hb.2]; simp
end Go.Ax

set_option linter.unusedVariables false
namespace Go.Ax
open Go Go.Proofs
noncomputable def O43 (i : Nat) : Array Oper := opsOf i (bodyOf Try.f43)
noncomputable def B43_1 : Code := (.seq (.seq (.region 5 (O43 5) false) (.cond (Go.Operand.tmp 20) .skip (.exit 0))) (.seq (.block 1 (.seq (.region 7 (O43 7) false) (.seq (.region 8 (O43 8) false) (.cond (Go.Operand.tmp 32) (.region 9 (O43 9) true) (.seq (.region 10 (O43 10) false) (.cond (Go.Operand.tmp 63) (.region 11 (O43 11) true) .skip)))))) (.region 6 (O43 6) false)))
theorem s43 : bodyOf Try.f43 = (.seq (.seq (.region 0 (O43 0) false) (.cond (Go.Operand.tmp 11) (.region 1 (O43 1) false) .skip)) (.seq (.seq (.region 2 (O43 2) false) (.cond (Go.Operand.tmp 13) (.region 3 (O43 3) false) .skip)) (.seq (.seq (.region 4 (O43 4) false) (.block 0 (.loop B43_1))) (.region 12 (O43 12) false)))) := by kernel_rfl
theorem e43 : E0 43 = some ⟨82, [], bodyOf Try.f43⟩ := by kernel_rfl
theorem r43_0 (x0 x1 x2 x3 : AV) : RR O43 43 82 0 false [(0, x0), (1, x1), (2, x2), (3, x3)] fun _ call md k h =>
 bnd (aBinC tab .lss 3 x3 (.int .i64 0) true) fun v1 =>
 k .normal (st 82 [(0, x0), (1, x1), (2, x2), (3, x3), (11, v1)]) h
 := fun _ _ _ _ _ _ => by kernel_rfl
theorem r43_1 (x0 x1 x2 x3 x11 : AV) : RR O43 43 82 1 false [(0, x0), (1, x1), (2, x2), (3, x3), (11, x11)] fun _ call md k h =>
 k .normal (st 82 [(0, x0), (1, x1), (2, x2), (3, (.int .i64 0))]) h
 := fun _ _ _ _ _ _ => by kernel_rfl
theorem r43_2a (x0 x1 x2 x3 x11 : AV) : RR O43 43 82 2 false [(0, x0), (1, x1), (2, x2), (3, x3), (11, x11)] fun _ call md k h =>
 bnd (aBinC tab .gtr 3 x3 (.int .i64 64) true) fun v1 =>
 k .normal (st 82 [(0, x0), (1, x1), (2, x2), (3, x3), (13, v1)]) h
 := fun _ _ _ _ _ _ => by kernel_rfl
theorem r43_2b (x0 x1 x2 x3 : AV) : RR O43 43 82 2 false [(0, x0), (1, x1), (2, x2), (3, x3)] fun _ call md k h =>
 bnd (aBinC tab .gtr 3 x3 (.int .i64 64) true) fun v1 =>
 k .normal (st 82 [(0, x0), (1, x1), (2, x2), (3, x3), (13, v1)]) h
 := fun _ _ _ _ _ _ => by kernel_rfl
theorem r43_3 (x0 x1 x2 x3 x13 : AV) : RR O43 43 82 3 false [(0, x0), (1, x1), (2, x2), (3, x3), (13, x13)] fun _ call md k h =>
 k .normal (st 82 [(0, x0), (1, x1), (2, x2), (3, (.int .i64 64))]) h
 := fun _ _ _ _ _ _ => by kernel_rfl
theorem r43_4a (x0 x1 x2 x3 x13 : AV) : RR O43 43 82 4 false [(0, x0), (1, x1), (2, x2), (3, x3), (13, x13)] fun _ call md k h =>
 k .normal (st 82 [(0, x0), (1, x1), (2, x2), (3, x3), (8, (.int .i64 0))]) h
 := fun _ _ _ _ _ _ => by kernel_rfl
theorem r43_4b (x0 x1 x2 x3 : AV) : RR O43 43 82 4 false [(0, x0), (1, x1), (2, x2), (3, x3)] fun _ call md k h =>
 k .normal (st 82 [(0, x0), (1, x1), (2, x2), (3, x3), (8, (.int .i64 0))]) h
 := fun _ _ _ _ _ _ => by kernel_rfl
theorem r43_5 (x0 x1 x2 x3 x8 : AV) : RR O43 43 82 5 false [(0, x0), (1, x1), (2, x2), (3, x3), (8, x8)] fun _ call md k h =>
 bnd (aNil x0) fun v1 =>
 bnd (aFieldAddr tab 74 v1 1) fun v2 =>
 bnd (aLoad tab 72 v2 h) fun v3 =>
 bnd (aLen tab 72 v3) fun v4 =>
 bnd (aBinC tab .lss 3 x8 v4 false) fun v5 =>
 k .normal (st 82 [(0, x0), (1, x1), (2, x2), (3, x3), (8, x8), (20, v5)]) h
 := fun _ _ _ _ _ _ => by kernel_rfl
theorem r43_6a (x0 x1 x2 x3 x8 x9 x63 : AV) : RR O43 43 82 6 false [(0, x0), (1, x1), (2, x2), (3, x3), (8, x8), (9, x9), (63, x63)] fun _ call md k h =>
 bnd (aBinC tab .add 3 x8 (.int .i64 1) true) fun v1 =>
 k .normal (st 82 [(0, x0), (1, x1), (2, x2), (3, x3), (8, v1)]) h
 := fun _ _ _ _ _ _ => by kernel_rfl
theorem r43_6b (x0 x1 x2 x3 x8 : AV) : RR O43 43 82 6 false [(0, x0), (1, x1), (2, x2), (3, x3), (8, x8)] fun _ call md k h =>
 bnd (aBinC tab .add 3 x8 (.int .i64 1) true) fun v1 =>
 k .normal (st 82 [(0, x0), (1, x1), (2, x2), (3, x3), (8, v1)]) h
 := fun _ _ _ _ _ _ => by kernel_rfl
theorem r43_7 (x0 x1 x2 x3 x8 x20 : AV) : RR O43 43 82 7 false [(0, x0), (1, x1), (2, x2), (3, x3), (8, x8), (20, x20)] fun _ call md k h =>
 bnd (aNil x0) fun v1 =>
 bnd (aFieldAddr tab 74 v1 1) fun v2 =>
 bnd (aLoad tab 72 v2 h) fun v3 =>
 bnd (aIndexAddr tab 72 v3 x8) fun v4 =>
 bnd (aLoad tab 112 v4 h) fun v5 =>
 bnd2 (aAlloc tab 112 h) fun v6 h7 =>
 bnd (aStore tab 112 v6 v5 h7) fun h8 =>
 k .normal (st 82 [(0, x0), (1, x1), (2, x2), (3, x3), (8, x8), (9, v6)]) h8
 := fun _ _ _ _ _ _ => by kernel_rfl
theorem r43_8 (x0 x1 x2 x3 x8 x9 : AV) : RR O43 43 82 8 false [(0, x0), (1, x1), (2, x2), (3, x3), (8, x8), (9, x9)] fun _ call md k h =>
 bnd (aBinC tab .eql 3 x8 x2 false) fun v1 =>
 k .normal (st 82 [(0, x0), (1, x1), (2, x2), (3, x3), (8, x8), (9, x9), (32, v1)]) h
 := fun _ _ _ _ _ _ => by kernel_rfl
theorem r43_9 (x0 x1 x2 x3 x8 x9 x32 : AV) : RR O43 43 82 9 true [(0, x0), (1, x1), (2, x2), (3, x3), (8, x8), (9, x9), (32, x32)] fun _ call md k h =>
 bnd (aNil x0) fun v1 =>
 bnd (aFieldAddr tab 74 v1 0) fun v2 =>
 bnd (aLoad tab 30 v2 h) fun v3 =>
 bnd (aFieldAddr tab 112 x9 0) fun v4 =>
 bnd (aLoad tab 3 v4 h) fun v5 =>
 bnd (aLit tab 22 0 []) fun v6 =>
 bnd (aFieldAddr tab 112 x9 1) fun v7 =>
 bnd (aLoad tab 22 v7 h) fun v8 =>
 bnd (aSlice tab 22 v8 none (some x3) none) fun v9 =>
 bnd2 (aApp tab 22 22 md v6 v9 h) fun v10 h11 =>
 bnd (aNil x0) fun v12 =>
 bnd (aFieldAddr tab 74 v12 0) fun v13 =>
 bnd (aLoad tab 30 v13 h11) fun v14 =>
 bnd (aFieldAddr tab 112 x9 0) fun v15 =>
 bnd (aLoad tab 3 v15 h11) fun v16 =>
 bnd (aIndexAddr tab 30 v14 v16) fun v17 =>
 bnd (aLoad tab 22 v17 h11) fun v18 =>
 bnd (aSlice tab 22 v18 (some x3) none none) fun v19 =>
 bnd2 (aApp tab 22 22 md v10 v19 h11) fun v20 h21 =>
 bnd (aIndexAddr tab 30 v3 v5) fun v22 =>
 bnd (aStore tab 22 v22 v20 h21) fun h23 =>
 onT (rdSame (aLoad tab 30 v2 h11) v3) <|
 onT (rdSame (aLoad tab 30 v2 h21) v3) <|
 onT (rdSame (aLoad tab 3 v4 h11) v5) <|
 onT (rdSame (aLoad tab 3 v4 h21) v5) <|
 onT (rdSame (aLoad tab 30 v13 h) v14) <|
 onT (rdSame (aLoad tab 3 v15 h) v16) <|
 onT (rdSame (aLoad tab 22 v17 h) v18) <|
 k .normal (st 82 [(0, x0), (1, x1), (2, x2), (3, x3), (8, x8)]) h23
 := RRp [(3, 11), (3, 22), (5, 11), (5, 22), (15, 11), (17, 11), (19, 11)] (by kernel_rfl) (by kernel_rfl) (fun _ _ _ _ _ => by kernel_rfl)
theorem r43_10 (x0 x1 x2 x3 x8 x9 x32 : AV) : RR O43 43 82 10 false [(0, x0), (1, x1), (2, x2), (3, x3), (8, x8), (9, x9), (32, x32)] fun _ call md k h =>
 bnd (aBinC tab .rem 3 x8 (.int .i64 64) true) fun v1 =>
 bnd (aConv tab 3 78 v1 h) fun v2 =>
 bnd (aBinC tab .shr 44 x1 v2 false) fun v3 =>
 bnd (aBinC tab .rem 44 v3 (.int .u64 2) true) fun v4 =>
 bnd (aBinC tab .eql 44 v4 (.int .u64 1) true) fun v5 =>
 k .normal (st 82 [(0, x0), (1, x1), (2, x2), (3, x3), (8, x8), (9, x9), (63, v5)]) h
 := fun _ _ _ _ _ _ => by kernel_rfl
theorem r43_11 (x0 x1 x2 x3 x8 x9 x63 : AV) : RR O43 43 82 11 true [(0, x0), (1, x1), (2, x2), (3, x3), (8, x8), (9, x9), (63, x63)] fun _ call md k h =>
 bnd (aNil x0) fun v1 =>
 bnd (aFieldAddr tab 74 v1 0) fun v2 =>
 bnd (aLoad tab 30 v2 h) fun v3 =>
 bnd (aFieldAddr tab 112 x9 0) fun v4 =>
 bnd (aLoad tab 3 v4 h) fun v5 =>
 bnd (aFieldAddr tab 112 x9 1) fun v6 =>
 bnd (aLoad tab 22 v6 h) fun v7 =>
 bnd (aIndexAddr tab 30 v3 v5) fun v8 =>
 bnd (aStore tab 22 v8 v7 h) fun h9 =>
 k .normal (st 82 [(0, x0), (1, x1), (2, x2), (3, x3), (8, x8)]) h9
 := RRd (by kernel_rfl) (by kernel_rfl) (fun _ _ _ _ _ => by kernel_rfl)
theorem r43_12 (x0 x1 x2 x3 x8 x20 : AV) : RR O43 43 82 12 false [(0, x0), (1, x1), (2, x2), (3, x3), (8, x8), (20, x20)] fun _ call md k h =>
 bnd (aNil x0) fun v1 =>
 bnd (aFieldAddr tab 74 v1 1) fun v2 =>
 bnd (aStore tab 72 v2 .nils h) fun h3 =>
 bnd (aNil x0) fun v4 =>
 bnd (aFieldAddr tab 74 v4 2) fun v5 =>
 bnd (aStore tab 3 v5 (.int .i64 (-1)) h3) fun h6 =>
 bnd (aNil x0) fun v7 =>
 bnd (aFieldAddr tab 74 v7 3) fun v8 =>
 bnd (aStore tab 4 v8 (.bool false) h6) fun h9 =>
 k .normal (st 82 []) h9
 := fun _ _ _ _ _ _ => by kernel_rfl
def R43 := And.intro @r43_0 <| And.intro @r43_1 <| And.intro @r43_2a <| And.intro @r43_2b <| And.intro @r43_3 <| And.intro @r43_4a <| And.intro @r43_4b <| And.intro @r43_5 <| And.intro @r43_6a <| And.intro @r43_6b <| And.intro @r43_7 <| And.intro @r43_8 <| And.intro @r43_9 <| And.intro @r43_10 <| And.intro @r43_11 <| @r43_12
end Go.Ax

namespace Go.Ax
open Go Go.Proofs
theorem ApB.app {S : Obs} {h : Heap} {x : AV} {l : List UInt8} (a : ApB S h x l) (up : Up S h) (new : List UInt8) (hl : l.length + new.length < 2 ^ 40) :
    ∃ x' h', aAppend tab 5 false x (new.map U8) h = some (x', h') ∧ ApB S h' x' (l ++ new) ∧ Keep S h h' ∧ NoTok h h' := by
  cases new with
  | nil =>
    refine ⟨x, h, ?_, by simpa using a, Keep.refl _ _, fun _ _ h _ => h⟩
    rcases a with ⟨rfl, -⟩ | ⟨k, rfl, -⟩ <;> rfl
  | cons y ys => exact a.append up (by simp) hl
theorem alloc112 (h : Heap) : aAlloc tab 112 h = some (.ref h.length [] 111, h ++ [.var 112 (.agg 111 [.int .i64 0, .nils])]) := by kernel_rfl
theorem sn112 (h : Heap) (n : Nat) (v : AV) : aStore tab 112 (.ref h.length [] 111) (.agg 111 [.int .i64 n, v]) (h ++ [.var 112 (.agg 111 [.int .i64 0, .nils])]) = some (h ++ [.var 112 (.agg 111 [.int .i64 n, v])]) :=
  store_new (by simp) (by simp [fits])
theorem load112v (h : Heap) (v : AV) : aLoad tab 112 (.vptr 111 v) h = some v := by simp [aLoad]
theorem fa112_0 (q : Nat) : aFieldAddr tab 112 (.ref q [] 111) 0 = some (.ref q [0] 3) := by simp [aFieldAddr]
theorem fa112_1 (q : Nat) : aFieldAddr tab 112 (.ref q [] 111) 1 = some (.ref q [1] 22) := by simp [aFieldAddr]
theorem ld112_0 {h : Heap} {q : Nat} {a v : AV} (hq : h[q]? = some (.var 112 (.agg 111 [a, v]))) : aLoad tab 3 (.ref q [0] 3) h = some a := load_fld (i := 0) hq rfl (by simp)
theorem ld112_1 {h : Heap} {q : Nat} {a v : AV} (hq : h[q]? = some (.var 112 (.agg 111 [a, v]))) : aLoad tab 22 (.ref q [1] 22) h = some v := load_fld (i := 1) hq rfl (by simp)
theorem conv_3_78 (n : Nat) (hn : n < 2 ^ 63) (h : Heap) : aConv tab 3 78 (.int .i64 n) h = some (.int .u64 n) := by
  simp [aConv, wrap_u64]
  omega
theorem shr_64u (K n : Nat) (hn : n < 64) : aBinC tab .shr 44 (.int .u64 K) (.int .u64 n) false = some (.int .u64 ((K / 2 ^ n : Nat) : Int)) := by
  have e : Go.binOp .shr 44 (.int .u64 (K : Int)) (.int .u64 (n : Int)) = pure (.int .u64 ((K : Int) / 2 ^ n)) := by
    have := Go.shift_shr .u64 .u64 (K : Int) (n : Int) (by omega) (by have : IntKind.u64.bits = 64 := rfl; omega)
    rw [Int.toNat_natCast] at this
    exact this
  simp only [aBinC, aBin, e, ofPure, pure]
  simp
theorem rem2_64 (a : Nat) : aBinC tab .rem 44 (.int .u64 a) (.int .u64 2) true = some (.int .u64 ((a % 2 : Nat) : Int)) := by
  simp [aBinC, aBin, Go.binOp, Op.intDiv, ofPure, pure, wrap_u64]
  rw [Int.tmod_eq_emod_of_nonneg (by omega)]
  try omega
theorem rcrash_loop {S : Obs} {h0 : Heap} {p r : Nat} {y : AV} {vs : List AV} {nL : Nat} {L : List (Nat × List UInt8)} {f : Int} {w : Bool} (hy : Ap 111 S h0 y vs) (hv : LsL vs L) (hL : L.length < 2 ^ 30)
    (hws : ∀ w ∈ L, w.1 < nL ∧ w.2.length = 64) (hs : nL ≠ 0 → S r) (KK : Nat) (torn at' : Int) (call : CallF) (N : Nat) :
    ∀ (m i n : Nat) (h : Heap) (c : List (List UInt8)), i + m = L.length → m < n → Up S h → h[p]? = some (rv r nL y f w) → c.length = nL → (∀ b ∈ c, b.length = 64) → (nL ≠ 0 → ∃ us, h[r]? = some (.row 22 us) ∧ BsL us c) →
    ∃ h', (∀ K : Ex → List AV → Heap → Option (AV × Heap), loopK (fun next => runK C0 call false 43 N B43_1 (seqE next K)) n (st 82 [(0, rp p), (1, .int .u64 KK), (2, .int .i64 torn), (3, .int .i64 (partOf at')), (8, .int .i64 i)]) h =
      K (.exit 0) (st 82 [(0, rp p), (1, .int .u64 KK), (2, .int .i64 torn), (3, .int .i64 (partOf at')), (8, .int .i64 L.length), (20, .bool false)]) h') ∧
      h'[p]? = some (rv r nL y f w) ∧ (nL ≠ 0 → ∃ us, h'[r]? = some (.row 22 us) ∧ BsL us (crashed KK torn at' i c (L.drop i))) ∧ Keep S h h' := by
  have hlen := len72 hy
  rw [hv.length] at hlen
  intro m
  induction m with
  | zero =>
    intro i n h c hi hn up hp hcl hcc hr
    obtain ⟨n, rfl⟩ : ∃ j, n = j + 1 := ⟨n - 1, by omega⟩
    obtain rfl : i = L.length := by omega
    refine ⟨h, fun K => ?_, hp, by rw [List.drop_length]; exact hr, Keep.refl _ _⟩
    rw [loopK_succ]
    generalize loopK (_ : (List AV → Heap → Option (AV × Heap)) → List AV → Heap → Option (AV × Heap)) n = Lp
    have e : decide (((L.length : Nat) : Int) < (L.length : Nat)) = false := decide_eq_false (by omega)
    simp -implicitDefEqProofs only [B43_1, ↓RK, RK, ↓RB, RB, decide_true, decide_false, STs, Nat.reduceBEq, ↓reduceIte, Nat.reduceLT, ↓R43, R43, rp_chk, rpf1, rld1 hp, hlen, bin_lss, e]
  | succ m ih =>
    intro i n h c hi hn up hp hcl hcc hr
    obtain ⟨n, rfl⟩ : ∃ j, n = j + 1 := ⟨n - 1, by omega⟩
    have hlt : i < L.length := by omega
    have hw : L[i]? = some L[i] := List.getElem?_eq_getElem hlt
    have hwl := hws _ (List.getElem_mem hlt)
    rw [drop_get hw]
    simp only [crashed]
    have e : decide (((i : Nat) : Int) < (L.length : Nat)) = true := decide_eq_true (by omega)
    have wr : IntKind.i64.wrap ((i : Int) + 1) = ((i + 1 : Nat) : Int) := by rw [wrap_i64] <;> omega
    obtain ⟨v, hv1, bv⟩ := hv.get hw
    generalize L[i] = u at *
    have hne : nL ≠ 0 := by omega
    obtain ⟨us, hus, bus⟩ := hr hne
    have hul : us.length = nL := by rw [bus.length, hcl]
    have huc : u.1 < c.length := by omega
    have hcv : c[u.1].length = 64 := hcc _ (List.getElem_mem huc)
    have hget : (c[u.1]?).getD [] = c[u.1] := by rw [List.getElem?_eq_getElem huc]; rfl
    obtain ⟨z, hz, bz⟩ := bus.get (List.getElem?_eq_getElem huc)
    have k1 : Keep (From h.length) h (h ++ [.var 112 (.agg 111 [.int .i64 u.1, v])]) := Keep.app h _ (Up.fresh h)
    have hq : (h ++ [.var 112 (.agg 111 [.int .i64 u.1, v])])[h.length]? = some (.var 112 (.agg 111 [.int .i64 u.1, v])) := by simp
    have hsn := sn112 h u.1 v
    have hp1 : (h ++ [.var 112 (.agg 111 [.int .i64 u.1, v])])[p]? = some (rv r nL y f w) := by rw [List.getElem?_append_left (List.getElem?_eq_some_iff.1 hp).1]; exact hp
    have hr1 : (h ++ [.var 112 (.agg 111 [.int .i64 u.1, v])])[r]? = some (.row 22 us) := by rw [List.getElem?_append_left (List.getElem?_eq_some_iff.1 hus).1]; exact hus
    have kk := k1.up up
    generalize h ++ [Obj.var 112 (.agg 111 [.int .i64 u.1, v])] = H at *
    have hrp : r ≠ p := by intro e; subst e; rw [hp1] at hr1; cases hr1
    have upH := up.keep kk
    have next : ∀ (H' : Heap) (z' : AV) (b' : List UInt8), H'[r]? = some (.row 22 us) → H'[p]? = some (rv r nL y f w) → Keep S H H' → Bs z' b' → crashStep KK torn at' i c u = c.set u.1 b' →
        ∃ h', (∀ K : Ex → List AV → Heap → Option (AV × Heap), loopK (fun next => runK C0 call false 43 N B43_1 (seqE next K)) n (st 82 [(0, rp p), (1, .int .u64 KK), (2, .int .i64 torn), (3, .int .i64 (partOf at')), (8, .int .i64 ((i + 1 : Nat) : Int))]) (H'.set r (.row 22 (us.set u.1 z'))) =
          K (.exit 0) (st 82 [(0, rp p), (1, .int .u64 KK), (2, .int .i64 torn), (3, .int .i64 (partOf at')), (8, .int .i64 L.length), (20, .bool false)]) h') ∧
          h'[p]? = some (rv r nL y f w) ∧ (nL ≠ 0 → ∃ us, h'[r]? = some (.row 22 us) ∧ BsL us (crashed KK torn at' (i + 1) (crashStep KK torn at' i c u) (L.drop (i + 1)))) ∧ Keep S h h' := by
      intro H' z' b' hr' hp' kH bz' hcs
      have k2 : Keep S H' (H'.set r (.row 22 (us.set u.1 z'))) := Keep.set H' _ (hs hne)
      have hltr := (List.getElem?_eq_some_iff.1 hr').1
      obtain ⟨h', g1, g2, g3, g4⟩ := ih (i + 1) n (H'.set r (.row 22 (us.set u.1 z'))) (crashStep KK torn at' i c u) (by omega) (by omega) ((upH.keep kH).keep k2) (by rw [List.getElem?_set_ne hrp]; exact hp')
        (by rw [crashStep_length]; exact hcl) (crashStep_cells KK torn at' i c u hcc hwl.2 huc) (fun _ => ⟨us.set u.1 z', by simp [hltr], by rw [hcs]; exact bus.set _ bz'⟩)
      exact ⟨h', g1, g2, g3, (kk.trans kH).trans (k2.trans g4)⟩
    have hpl := partOf_le at'
    by_cases ht : (i : Int) = torn
    · have e1 : decide ((i : Int) = torn) = true := decide_eq_true ht
      obtain ⟨t1, st1, bt1⟩ := bv.to (partOf at') (by omega)
      obtain ⟨t2, st2, bt2⟩ := bz.from (partOf at') (by omega)
      have a0 : ApB S H (.vsl 5 [] .exact) [] := .inr ⟨_, rfl, .inl rfl⟩
      have by1 : By (fun _ => False) H t1 (u.2.take (partOf at')) := .inl bt1
      obtain ⟨x1, H1, p1, ax1, kx1, nt1⟩ := a0.app upH (u.2.take (partOf at')) (by simp; omega)
      have by2 : By (fun _ => False) H1 t2 (c[u.1].drop (partOf at')) := .inl bt2
      obtain ⟨x2, H2, p2, ax2, kx2, nt2⟩ := ApB.app (l := [] ++ u.2.take (partOf at')) ax1 (upH.keep kx1) (c[u.1].drop (partOf at')) (by simp; omega)
      have hq1 := nt1 _ _ hq (fun g e => by cases e)
      have hq2 := nt2 _ _ hq1 (fun g e => by cases e)
      have hp2 := nt1 _ _ hp1 (fun g e => by cases e)
      have hp3 := nt2 _ _ hp2 (fun g e => by cases e)
      have hr2 := nt1 _ _ hr1 (fun g e => by cases e)
      have hr3 := nt2 _ _ hr2 (fun g e => by cases e)
      have bx2 : Bs x2 ([] ++ u.2.take (partOf at') ++ c[u.1].drop (partOf at')) := Ap.bs ax2
      have hcs : crashStep KK torn at' i c u = c.set u.1 ([] ++ u.2.take (partOf at') ++ c[u.1].drop (partOf at')) := by unfold crashStep; rw [if_pos ht, hget]; simp
      obtain ⟨h', g1, g2, g3, g4⟩ := next H2 x2 _ hr3 hp3 (kx1.trans kx2) bx2 hcs
      refine ⟨h', fun K => ?_, g2, g3, g4⟩
      rw [loopK_succ, ← g1 K]
      generalize loopK (_ : (List AV → Heap → Option (AV × Heap)) → List AV → Heap → Option (AV × Heap)) n = Lp
      have sr := store_row (i := u.1) hr3 (by omega) bx2.fits
      simp -implicitDefEqProofs only [B43_1, ↓RK, RK, ↓RB, RB, decide_true, decide_false, STs, Nat.reduceBEq, ↓reduceIte, Nat.reduceLT, ↓R43, R43, rp_chk, rpf1, rld1 hp, hlen, bin_lss, e, idx72 hy hv1, load112v, alloc112, hsn, bin_eql, e1, rpf0, rld0 hp1, rld0 hp2, rld0 hp3, fa112_0, fa112_1, ld112_0 hq, ld112_1 hq, ld112_0 hq1, ld112_0 hq2, lit22_0, st1, app22s by1.src, p1,
        idxs r _ u.1 hwl.1, load_row hr2 hz, load_row hr1 hz, st2, app22s by2.src, p2, sr, rdSame_refl, bin_add, wr]
    · have e1 : decide ((i : Int) = torn) = false := decide_eq_false ht
      by_cases hk : KK / 2 ^ (i % 64) % 2 = 1
      · have e2 : decide (((KK / 2 ^ (i % 64) % 2 : Nat) : Int) = 1) = true := decide_eq_true (by omega)
        have hcs : crashStep KK torn at' i c u = c.set u.1 u.2 := by unfold crashStep; rw [if_neg ht, if_pos hk]
        obtain ⟨h', g1, g2, g3, g4⟩ := next H v _ hr1 hp1 (Keep.refl _ _) bv hcs
        refine ⟨h', fun K => ?_, g2, g3, g4⟩
        rw [loopK_succ, ← g1 K]
        generalize loopK (_ : (List AV → Heap → Option (AV × Heap)) → List AV → Heap → Option (AV × Heap)) n = Lp
        have sr := store_row (i := u.1) hr1 (by omega) bv.fits
        simp -implicitDefEqProofs only [B43_1, ↓RK, RK, ↓RB, RB, decide_true, decide_false, STs, Nat.reduceBEq, ↓reduceIte, Nat.reduceLT, ↓R43, R43, rp_chk, rpf1, rld1 hp, hlen, bin_lss, e, idx72 hy hv1, load112v, alloc112, hsn, bin_eql, e1, rem_64 i (by omega), conv_3_78 (i % 64) (by omega), shr_64u KK (i % 64) (by omega), rem2_64, e2,
          rpf0, rld0 hp1, fa112_0, fa112_1, ld112_0 hq, ld112_1 hq, idxs r _ u.1 hwl.1, sr, bin_add, wr]
      · have e2 : decide (((KK / 2 ^ (i % 64) % 2 : Nat) : Int) = 1) = false := decide_eq_false (by omega)
        have hcs : crashStep KK torn at' i c u = c := by unfold crashStep; rw [if_neg ht, if_neg hk]
        obtain ⟨h', g1, g2, g3, g4⟩ := ih (i + 1) n H c (by omega) (by omega) upH hp1 hcl hcc (fun _ => ⟨us, hr1, bus⟩)
        refine ⟨h', fun K => ?_, g2, by rw [hcs]; exact g3, kk.trans g4⟩
        rw [loopK_succ, ← g1 K]
        generalize loopK (_ : (List AV → Heap → Option (AV × Heap)) → List AV → Heap → Option (AV × Heap)) n = Lp
        simp -implicitDefEqProofs only [B43_1, ↓RK, RK, ↓RB, RB, decide_true, decide_false, STs, Nat.reduceBEq, ↓reduceIte, Nat.reduceLT, ↓R43, R43, rp_chk, rpf1, rld1 hp, hlen, bin_lss, e, idx72 hy hv1, load112v, alloc112, hsn, bin_eql, e1, rem_64 i (by omega), conv_3_78 (i % 64) (by omega), shr_64u KK (i % 64) (by omega), rem2_64, e2, bin_add, wr]
theorem rcrash_ok {S : Obs} {p r : Nat} {h : Heap} {d : Dk} (D : Rsk S h p r d) (up : Up S h) (hl : d.loose.length < 2 ^ 30) (KK : Nat) (torn at' : Int) (k : Nat) (hk : d.loose.length < k) :
    ∃ h', exFn C0 E0 (k + 1) false 43 [rp p, .int .u64 KK, .int .i64 torn, .int .i64 at'] h = some (.tuple [], h') ∧ Rsk S h' p r (d.crash KK torn at') ∧ Keep S h h' := by
  obtain ⟨y, vs, hy, ha, hv⟩ := D.var
  have n0 : ([rp p, .int .u64 KK, .int .i64 torn, .int .i64 at'] ++ List.replicate (82 - [rp p, AV.int .u64 KK, .int .i64 torn, .int .i64 at'].length) AV.undef) = st 82 [(0, rp p), (1, .int .u64 KK), (2, .int .i64 torn), (3, .int .i64 at')] := rfl
  have hz : ∀ {l : List (List UInt8)}, l.length ≠ 0 → l ≠ [] := fun h e => h (by rw [e]; rfl)
  obtain ⟨h1, f1, f2, f3, f4⟩ := rcrash_loop (f := d.fuse) (w := d.down) ha hv hl D.loose (fun h => D.hr (hz h)) KK torn at' (exFn C0 E0 k) k d.loose.length 0 k h d.lasts (by omega) hk up hy rfl D.cells (fun h => D.row (hz h))
  rw [show ((0 : Nat) : Int) = 0 from rfl] at f1
  have hlt : p < h1.length := (List.getElem?_eq_some_iff.1 f2).1
  have hx1 : (h1.set p (rv r d.lasts.length .nils d.fuse d.down))[p]? = some (rv r d.lasts.length .nils d.fuse d.down) := by simp [hlt]
  have hx2 : (h1.set p (rv r d.lasts.length .nils (-1) d.down))[p]? = some (rv r d.lasts.length .nils (-1) d.down) := by simp [hlt]
  have t1 := rst1 f2 (y := .nils) rfl
  have t2 := rst2 hx1 (-1)
  rw [List.set_set] at t2
  have t3 := rst3 hx2 false
  rw [List.set_set] at t3
  have hcl : (crashed KK torn at' 0 d.lasts d.loose).length = d.lasts.length := crashed_length _ _ _ _ _ _
  have hcells : ∀ (ws : List (Nat × List UInt8)) (k : Nat) (l : List (List UInt8)), l.length = d.lasts.length → (∀ b ∈ l, b.length = 64) → (∀ w ∈ ws, w.1 < d.lasts.length ∧ w.2.length = 64) → ∀ b ∈ crashed KK torn at' k l ws, b.length = 64 := by
    intro ws
    induction ws with
    | nil => intro k l _ h _; exact h
    | cons w ws ih =>
      intro k l e h hw
      have h0 := hw w List.mem_cons_self
      exact ih (k + 1) _ (by rw [crashStep_length]; exact e) (crashStep_cells KK torn at' k l w h h0.2 (by omega)) fun v hv => hw v (List.mem_cons_of_mem _ hv)
  refine ⟨h1.set p (rv r d.lasts.length .nils (-1) false), exFn_of e43 ?_, ?_, f4.trans (Keep.set h1 _ D.hp)⟩
  · rw [fnK, n0, s43]
    by_cases q : at' < 0
    · have hp : ((partOf at' : Nat) : Int) = 0 := by unfold partOf; omega
      rw [hp] at f1
      have e2 : decide ((64 : Int) < 0) = false := by decide
      simp -implicitDefEqProofs only [↓RK, RK, ↓RB, RB, decide_true, decide_false, STs, Nat.reduceBEq, ↓reduceIte, Nat.reduceLT, ↓R43, R43, bin_lss, decide_eq_true q, bin_gtr, e2]
      rw [f1]
      simp -implicitDefEqProofs only [↓RK, RK, ↓RB, RB, decide_true, decide_false, STs, Nat.reduceBEq, ↓reduceIte, Nat.reduceLT, ↓R43, R43, rp_chk, rpf1, rpf2, rpf3, t1, t2, t3, results0]
    · by_cases q2 : 64 < at'
      · have hp : ((partOf at' : Nat) : Int) = 64 := by unfold partOf; omega
        rw [hp] at f1
        simp -implicitDefEqProofs only [↓RK, RK, ↓RB, RB, decide_true, decide_false, STs, Nat.reduceBEq, ↓reduceIte, Nat.reduceLT, ↓R43, R43, bin_lss, decide_eq_false q, bin_gtr, decide_eq_true q2]
        rw [f1]
        simp -implicitDefEqProofs only [↓RK, RK, ↓RB, RB, decide_true, decide_false, STs, Nat.reduceBEq, ↓reduceIte, Nat.reduceLT, ↓R43, R43, rp_chk, rpf1, rpf2, rpf3, t1, t2, t3, results0]
      · have hp : ((partOf at' : Nat) : Int) = at' := by unfold partOf; omega
        rw [hp] at f1
        simp -implicitDefEqProofs only [↓RK, RK, ↓RB, RB, decide_true, decide_false, STs, Nat.reduceBEq, ↓reduceIte, Nat.reduceLT, ↓R43, R43, bin_lss, decide_eq_false q, bin_gtr, decide_eq_false q2]
        rw [f1]
        simp -implicitDefEqProofs only [↓RK, RK, ↓RB, RB, decide_true, decide_false, STs, Nat.reduceBEq, ↓reduceIte, Nat.reduceLT, ↓R43, R43, rp_chk, rpf1, rpf2, rpf3, t1, t2, t3, results0]
  · refine ⟨D.hp, fun hne => D.hr (hz (by rw [← hcl]; intro e; exact hne (List.eq_nil_of_length_eq_zero e))), ⟨.nils, [], ?_, .inl ⟨rfl, rfl⟩, .nil⟩, fun hne => ?_, hcells _ _ _ rfl D.cells D.loose, fun w hw => (List.not_mem_nil hw).elim, by show (crashed KK torn at' 0 d.lasts d.loose).length ≤ 1024; rw [hcl]; exact D.few⟩
    · show (h1.set p (rv r d.lasts.length .nils (-1) false))[p]? = some (rv r (crashed KK torn at' 0 d.lasts d.loose).length .nils (-1) false)
      rw [hcl, List.getElem?_set_self hlt]
    · have hne' : d.lasts.length ≠ 0 := by rw [← hcl]; intro e; exact hne (List.eq_nil_of_length_eq_zero e)
      obtain ⟨us, hr, bu⟩ := f3 hne'
      refine ⟨us, ?_, bu⟩
      rw [List.getElem?_set_ne]
      · exact hr
      · intro e
        subst e
        rw [f2] at hr
        cases hr
end Go.Ax

set_option linter.unusedVariables false
namespace Go.Ax
open Go Go.Proofs
noncomputable def O58 (i : Nat) : Array Oper := opsOf i (bodyOf Try.f58)
theorem s58 : bodyOf Try.f58 = (.seq (.region 0 (O58 0) false) (.seq (.region 1 (O58 1) true) .ret)) := by kernel_rfl
theorem e58 : E0 58 = some ⟨25, [2], bodyOf Try.f58⟩ := by kernel_rfl
theorem r58_0 (x0 : AV) : RR O58 58 25 0 false [(0, x0)] fun _ call md k h =>
 k .normal (st 25 [(0, x0)]) h
 := fun _ _ _ _ _ _ => by kernel_rfl
theorem r58_1 (x0 : AV) : RR O58 58 25 1 true [(0, x0)] fun _ call md k h =>
 bnd (aIndexAddr tab 22 x0 (.int .i64 0)) fun v1 =>
 bnd (aLoad tab 5 v1 h) fun v2 =>
 bnd (aConv tab 5 3 v2 h) fun v3 =>
 bnd (aBinC tab .shl 3 v3 (.int .u64 24) true) fun v4 =>
 bnd (aIndexAddr tab 22 x0 (.int .i64 1)) fun v5 =>
 bnd (aLoad tab 5 v5 h) fun v6 =>
 bnd (aConv tab 5 3 v6 h) fun v7 =>
 bnd (aBinC tab .shl 3 v7 (.int .u64 16) true) fun v8 =>
 bnd (aBinC tab .add 3 v4 v8 false) fun v9 =>
 bnd (aIndexAddr tab 22 x0 (.int .i64 2)) fun v10 =>
 bnd (aLoad tab 5 v10 h) fun v11 =>
 bnd (aConv tab 5 3 v11 h) fun v12 =>
 bnd (aBinC tab .shl 3 v12 (.int .u64 8) true) fun v13 =>
 bnd (aBinC tab .add 3 v9 v13 false) fun v14 =>
 bnd (aIndexAddr tab 22 x0 (.int .i64 3)) fun v15 =>
 bnd (aLoad tab 5 v15 h) fun v16 =>
 bnd (aConv tab 5 3 v16 h) fun v17 =>
 bnd (aBinC tab .add 3 v14 v17 false) fun v18 =>
 k .normal (st 25 [(2, v18)]) h
 := RRd (by kernel_rfl) (by kernel_rfl) (fun _ _ _ _ _ => by kernel_rfl)
def R58 := And.intro @r58_0 <| @r58_1
end Go.Ax

set_option linter.unusedVariables false
namespace Go.Ax
open Go Go.Proofs
noncomputable def O62 (i : Nat) : Array Oper := opsOf i (bodyOf Try.f62)
theorem s62 : bodyOf Try.f62 = (.seq (.region 0 (O62 0) false) (.seq (.region 1 (O62 1) false) .ret)) := by kernel_rfl
theorem e62 : E0 62 = some ⟨15, [2], bodyOf Try.f62⟩ := by kernel_rfl
theorem r62_0 (x0 : AV) : RR O62 62 15 0 false [(0, x0)] fun _ call md k h =>
 k .normal (st 15 [(0, x0)]) h
 := fun _ _ _ _ _ _ => by kernel_rfl
theorem r62_1 (x0 : AV) : RR O62 62 15 1 false [(0, x0)] fun _ call md k h =>
 bnd (aBinC tab .shr 3 x0 (.int .u64 24) true) fun v1 =>
 bnd (aConv tab 3 5 v1 h) fun v2 =>
 bnd (aBinC tab .shr 3 x0 (.int .u64 16) true) fun v3 =>
 bnd (aConv tab 3 5 v3 h) fun v4 =>
 bnd (aBinC tab .shr 3 x0 (.int .u64 8) true) fun v5 =>
 bnd (aConv tab 3 5 v5 h) fun v6 =>
 bnd (aConv tab 3 5 x0 h) fun v7 =>
 bnd (aLit tab 22 4 [(0, v2), (1, v4), (2, v6), (3, v7)]) fun v8 =>
 k .normal (st 15 [(2, v8)]) h
 := fun _ _ _ _ _ _ => by kernel_rfl
def R62 := And.intro @r62_0 <| @r62_1
end Go.Ax

set_option linter.unusedVariables false
namespace Go.Ax
open Go Go.Proofs
noncomputable def O63 (i : Nat) : Array Oper := opsOf i (bodyOf Try.f63)
noncomputable def B63_1 : Code := (.seq (.seq (.region 7 (O63 7) false) (.cond (Go.Operand.tmp 20) .skip (.exit 2))) (.seq (.block 3 (.seq (.region 9 (O63 9) false) (.cond (Go.Operand.tmp 25) (.region 10 (O63 10) false) (.region 11 (O63 11) false)))) (.region 8 (O63 8) false)))
noncomputable def B63_2 : Code := (.seq (.seq (.region 3 (O63 3) false) (.cond (Go.Operand.tmp 9) .skip (.exit 0))) (.seq (.block 1 (.seq (.region 5 (O63 5) false) (.seq (.region 6 (O63 6) false) (.block 2 (.loop B63_1))))) (.region 4 (O63 4) false)))
theorem s63 : bodyOf Try.f63 = (.seq (.region 0 (O63 0) false) (.seq (.region 1 (O63 1) false) (.seq (.seq (.region 2 (O63 2) false) (.block 0 (.loop B63_2))) (.seq (.region 12 (O63 12) false) .ret)))) := by kernel_rfl
theorem e63 : E0 63 = some ⟨33, [2], bodyOf Try.f63⟩ := by kernel_rfl
theorem r63_0 (x0 : AV) : RR O63 63 33 0 false [(0, x0)] fun _ call md k h =>
 k .normal (st 33 [(0, x0)]) h
 := fun _ _ _ _ _ _ => by kernel_rfl
theorem r63_1 (x0 : AV) : RR O63 63 33 1 false [(0, x0)] fun _ call md k h =>
 k .normal (st 33 [(0, x0), (3, (.int .u32 4294967295))]) h
 := fun _ _ _ _ _ _ => by kernel_rfl
theorem r63_2 (x0 x3 : AV) : RR O63 63 33 2 false [(0, x0), (3, x3)] fun _ call md k h =>
 k .normal (st 33 [(0, x0), (3, x3), (4, (.int .i64 0))]) h
 := fun _ _ _ _ _ _ => by kernel_rfl
theorem r63_3 (x0 x3 x4 : AV) : RR O63 63 33 3 false [(0, x0), (3, x3), (4, x4)] fun _ call md k h =>
 bnd (aLen tab 22 x0) fun v1 =>
 bnd (aBinC tab .lss 3 x4 v1 false) fun v2 =>
 k .normal (st 33 [(0, x0), (3, x3), (4, x4), (9, v2)]) h
 := fun _ _ _ _ _ _ => by kernel_rfl
theorem r63_4 (x0 x3 x4 x5 x20 : AV) : RR O63 63 33 4 false [(0, x0), (3, x3), (4, x4), (5, x5), (20, x20)] fun _ call md k h =>
 bnd (aBinC tab .add 3 x4 (.int .i64 1) true) fun v1 =>
 k .normal (st 33 [(0, x0), (3, x3), (4, v1)]) h
 := fun _ _ _ _ _ _ => by kernel_rfl
theorem r63_5 (x0 x3 x4 x9 : AV) : RR O63 63 33 5 false [(0, x0), (3, x3), (4, x4), (9, x9)] fun _ call md k h =>
 bnd (aIndexAddr tab 22 x0 x4) fun v1 =>
 bnd (aLoad tab 5 v1 h) fun v2 =>
 bnd (aConv tab 5 105 v2 h) fun v3 =>
 bnd (aBinC tab .xor 105 x3 v3 false) fun v4 =>
 k .normal (st 33 [(0, x0), (3, v4), (4, x4)]) h
 := fun _ _ _ _ _ _ => by kernel_rfl
theorem r63_6 (x0 x3 x4 : AV) : RR O63 63 33 6 false [(0, x0), (3, x3), (4, x4)] fun _ call md k h =>
 k .normal (st 33 [(0, x0), (3, x3), (4, x4), (5, (.int .i64 0))]) h
 := fun _ _ _ _ _ _ => by kernel_rfl
theorem r63_7 (x0 x3 x4 x5 : AV) : RR O63 63 33 7 false [(0, x0), (3, x3), (4, x4), (5, x5)] fun _ call md k h =>
 bnd (aBinC tab .lss 3 x5 (.int .i64 8) true) fun v1 =>
 k .normal (st 33 [(0, x0), (3, x3), (4, x4), (5, x5), (20, v1)]) h
 := fun _ _ _ _ _ _ => by kernel_rfl
theorem r63_8 (x0 x3 x4 x5 : AV) : RR O63 63 33 8 false [(0, x0), (3, x3), (4, x4), (5, x5)] fun _ call md k h =>
 bnd (aBinC tab .add 3 x5 (.int .i64 1) true) fun v1 =>
 k .normal (st 33 [(0, x0), (3, x3), (4, x4), (5, v1)]) h
 := fun _ _ _ _ _ _ => by kernel_rfl
theorem r63_9 (x0 x3 x4 x5 x20 : AV) : RR O63 63 33 9 false [(0, x0), (3, x3), (4, x4), (5, x5), (20, x20)] fun _ call md k h =>
 bnd (aBinC tab .rem 105 x3 (.int .u32 2) true) fun v1 =>
 bnd (aBinC tab .eql 105 v1 (.int .u32 1) true) fun v2 =>
 k .normal (st 33 [(0, x0), (3, x3), (4, x4), (5, x5), (25, v2)]) h
 := fun _ _ _ _ _ _ => by kernel_rfl
theorem r63_10 (x0 x3 x4 x5 x25 : AV) : RR O63 63 33 10 false [(0, x0), (3, x3), (4, x4), (5, x5), (25, x25)] fun _ call md k h =>
 bnd (aBinC tab .quo 105 x3 (.int .u32 2) true) fun v1 =>
 bnd (aBinC tab .xor 105 v1 (.int .u32 2197175160) true) fun v2 =>
 k .normal (st 33 [(0, x0), (3, v2), (4, x4), (5, x5)]) h
 := fun _ _ _ _ _ _ => by kernel_rfl
theorem r63_11 (x0 x3 x4 x5 x25 : AV) : RR O63 63 33 11 false [(0, x0), (3, x3), (4, x4), (5, x5), (25, x25)] fun _ call md k h =>
 bnd (aBinC tab .quo 105 x3 (.int .u32 2) true) fun v1 =>
 k .normal (st 33 [(0, x0), (3, v1), (4, x4), (5, x5)]) h
 := fun _ _ _ _ _ _ => by kernel_rfl
theorem r63_12 (x0 x3 x4 x9 : AV) : RR O63 63 33 12 false [(0, x0), (3, x3), (4, x4), (9, x9)] fun _ call md k h =>
 bnd (aUn .xor x3) fun v1 =>
 k .normal (st 33 [(2, v1)]) h
 := fun _ _ _ _ _ _ => by kernel_rfl
def R63 := And.intro @r63_0 <| And.intro @r63_1 <| And.intro @r63_2 <| And.intro @r63_3 <| And.intro @r63_4 <| And.intro @r63_5 <| And.intro @r63_6 <| And.intro @r63_7 <| And.intro @r63_8 <| And.intro @r63_9 <| And.intro @r63_10 <| And.intro @r63_11 <| @r63_12
end Go.Ax

namespace Go.Ax
open Go Go.Proofs
theorem shr_i64 (v : Int) (n : Nat) (hn : n ≤ 64) : aBinC tab .shr 3 (.int .i64 v) (.int .u64 n) true = some (.int .i64 (v / 2 ^ n)) := by
  have e : Go.binOp .shr 3 (.int .i64 v) (.int .u64 (n : Int)) = pure (.int .i64 (v / 2 ^ n)) := by
    have := Go.shift_shr .i64 .u64 v (n : Int) (by omega) (by have : IntKind.i64.bits = 64 := rfl; omega)
    rw [Int.toNat_natCast] at this
    exact this
  simp only [aBinC, aBin, e, ofPure, pure]
theorem shl_i64 (v : Int) (n : Nat) (hn : n ≤ 64) : aBinC tab .shl 3 (.int .i64 v) (.int .u64 n) true = some (.int .i64 (IntKind.i64.wrap (v * 2 ^ n))) := by
  have e : Go.binOp .shl 3 (.int .i64 v) (.int .u64 (n : Int)) = pure (.int .i64 (IntKind.i64.wrap (v * 2 ^ n))) := by
    have := Go.shift_shl .i64 .u64 v (n : Int) (by omega) (by have : IntKind.i64.bits = 64 := rfl; omega)
    rw [Int.toNat_natCast] at this
    exact this
  simp only [aBinC, aBin, e, ofPure, pure]
theorem conv_i64_8 (v : Int) (h : Heap) : aConv tab 3 5 (.int .i64 v) h = some (.int .u8 (v % 256)) := by
  simp [aConv, wrap_u8]
theorem toNat_ofInt32 (v : Int) : ((BitVec.ofInt 32 v).toNat : Int) = v % 4294967296 := by
  rw [BitVec.toNat_ofInt]
  omega
theorem byte_shr (v : Int) (s : Nat) : (U8 (byte (BitVec.ofInt 32 v >>> s))) = .int .u8 (((v % 4294967296) / 2 ^ s) % 256) := by
  have e := toNat_ofInt32 v
  simp only [U8, byte, UInt8.toNat_ofBitVec, BitVec.toNat_setWidth, BitVec.toNat_ushiftRight, Nat.shiftRight_eq_div_pow]
  congr 1
  rw [← e]
  simp
theorem four_ok (v : Int) (md : Bool) (h : Heap) (k : Nat) : exFn C0 E0 (k + 1) md 62 [.int .i64 v] h = some (.vsl 5 ((be4 (BitVec.ofInt 32 v)).map U8) .exact, h) := by
  refine exFn_of e62 ?_
  rw [fnK, show ([AV.int .i64 v] ++ List.replicate (15 - [AV.int .i64 v].length) AV.undef) = st 15 [(0, .int .i64 v)] from rfl, s62]
  have c1 := shr_i64 v 24 (by decide)
  have c2 := shr_i64 v 16 (by decide)
  have c3 := shr_i64 v 8 (by decide)
  simp only [Int.cast_ofNat_Int] at c1 c2 c3
  have b1 : AV.int .u8 ((v / 2 ^ 24) % 256) = U8 (byte (BitVec.ofInt 32 v >>> 24)) := by rw [byte_shr]; congr 1; omega
  have b2 : AV.int .u8 ((v / 2 ^ 16) % 256) = U8 (byte (BitVec.ofInt 32 v >>> 16)) := by rw [byte_shr]; congr 1; omega
  have b3 : AV.int .u8 ((v / 2 ^ 8) % 256) = U8 (byte (BitVec.ofInt 32 v >>> 8)) := by rw [byte_shr]; congr 1; omega
  have b4 : AV.int .u8 (v % 256) = U8 (byte (BitVec.ofInt 32 v)) := by
    have := byte_shr v 0
    simp only [BitVec.ushiftRight_zero] at this
    rw [this]; congr 1; omega
  simp -implicitDefEqProofs only [↓RK, RK, ↓RB, RB, decide_true, decide_false, STs, Nat.reduceBEq, ↓reduceIte, Nat.reduceLT, ↓R62, R62, c1, c2, c3, conv_i64_8, b1, b2, b3, b4, lit22_4]
  rfl
theorem conv_8_i64 (b : UInt8) (h : Heap) : aConv tab 5 3 (U8 b) h = some (.int .i64 b.toNat) := by
  have := b.toNat_lt
  simp [aConv, U8]
  exact wrap_i64 (by omega) (by omega)
def num4 (a b c d : UInt8) : Nat := a.toNat * 16777216 + b.toNat * 65536 + c.toNat * 256 + d.toNat
theorem get4_num (a b c d : UInt8) (r : List UInt8) : (get4 (a :: b :: c :: d :: r)).toNat = num4 a b c d := by
  have ha := a.toNat_lt
  have hb := b.toNat_lt
  have hc := c.toNat_lt
  have hd := d.toNat_lt
  have hlt : num4 a b c d < 4294967296 := by unfold num4; omega
  have e : be4 (BitVec.ofNat 32 (num4 a b c d)) = [a, b, c, d] := by
    simp only [be4, byte, List.cons.injEq, and_true]
    refine ⟨?_, ?_, ?_, ?_⟩ <;> apply UInt8.toNat_inj.1 <;>
      simp only [UInt8.toNat_ofBitVec, BitVec.toNat_setWidth, BitVec.toNat_ushiftRight, BitVec.toNat_ofNat, Nat.shiftRight_eq_div_pow] <;> unfold num4 at * <;> omega
  have := get4_be4 (BitVec.ofNat 32 (num4 a b c d)) r
  rw [e] at this
  rw [show a :: b :: c :: d :: r = [a, b, c, d] ++ r from rfl, this, BitVec.toNat_ofNat]
  omega
theorem num_ok {x : AV} {l : List UInt8} (hx : Bs x l) (hl : 4 ≤ l.length) (md : Bool) (h : Heap) (k : Nat) : exFn C0 E0 (k + 1) md 58 [x] h = some (.int .i64 (get4 l).toNat, h) := by
  obtain ⟨a, b, c, d, r, rfl⟩ : ∃ a b c d r, l = a :: b :: c :: d :: r := by
    match l, hl with
    | a :: b :: c :: d :: r, _ => exact ⟨a, b, c, d, r, rfl⟩
  refine exFn_of e58 ?_
  rw [fnK, show ([x] ++ List.replicate (25 - [x].length) AV.undef) = st 25 [(0, x)] from rfl, s58, get4_num]
  have ha := a.toNat_lt
  have hb := b.toNat_lt
  have hc := c.toNat_lt
  have hd := d.toNat_lt
  have i0 := hx.idx (i := 0) rfl
  have i1 := hx.idx (i := 1) rfl
  have i2 := hx.idx (i := 2) rfl
  have i3 := hx.idx (i := 3) rfl
  simp only [Int.cast_ofNat_Int] at i0 i1 i2 i3
  have c1 := shl_i64 (a.toNat : Int) 24 (by decide)
  have c2 := shl_i64 (b.toNat : Int) 16 (by decide)
  have c3 := shl_i64 (c.toNat : Int) 8 (by decide)
  simp only [Int.cast_ofNat_Int] at c1 c2 c3
  rw [wrap_i64 (by omega) (by omega)] at c1 c2 c3
  have w1 : IntKind.i64.wrap ((a.toNat : Int) * 2 ^ 24 + (b.toNat : Int) * 2 ^ 16) = (a.toNat : Int) * 2 ^ 24 + (b.toNat : Int) * 2 ^ 16 := by rw [wrap_i64] <;> omega
  have w2 : IntKind.i64.wrap ((a.toNat : Int) * 2 ^ 24 + (b.toNat : Int) * 2 ^ 16 + (c.toNat : Int) * 2 ^ 8) = (a.toNat : Int) * 2 ^ 24 + (b.toNat : Int) * 2 ^ 16 + (c.toNat : Int) * 2 ^ 8 := by rw [wrap_i64] <;> omega
  have w3 : IntKind.i64.wrap ((a.toNat : Int) * 2 ^ 24 + (b.toNat : Int) * 2 ^ 16 + (c.toNat : Int) * 2 ^ 8 + (d.toNat : Int)) = ((num4 a b c d : Nat) : Int) := by unfold num4; rw [wrap_i64] <;> omega
  simp -implicitDefEqProofs only [↓RK, RK, ↓RB, RB, decide_true, decide_false, STs, Nat.reduceBEq, ↓reduceIte, Nat.reduceLT, ↓R58, R58, i0, i1, i2, i3, load5, conv_8_i64, c1, c2, c3, bin_add, w1, w2, w3]
theorem rem_u32 (v : BitVec 32) : aBinC tab .rem 105 (U32 v) (.int .u32 2) true = some (.int .u32 ((v.toNat % 2 : Nat) : Int)) := by
  simp [aBinC, aBin, U32, Go.binOp, Op.intDiv, ofPure, pure, wrap_u32]
  rw [Int.tmod_eq_emod_of_nonneg (by omega)]
  try omega
theorem quo_u32 (v : BitVec 32) : aBinC tab .quo 105 (U32 v) (.int .u32 2) true = some (U32 (v >>> 1)) := by
  have hlt := v.isLt
  simp [aBinC, aBin, U32, Go.binOp, Op.intDiv, ofPure, pure, wrap_u32, Nat.shiftRight_eq_div_pow]
  omega
theorem crcBit_odd {v : BitVec 32} (h : v.toNat % 2 = 1) : crcBit v = (v >>> 1) ^^^ 2197175160#32 := by
  have e : v &&& 1#32 = 1#32 := by
    apply BitVec.eq_of_toNat_eq
    rw [BitVec.toNat_and]
    simp only [BitVec.toNat_ofNat, Nat.reducePow, Nat.reduceMod, Nat.and_one_is_mod]
    exact h
  unfold crcBit
  rw [e]
  rfl
theorem crcBit_even {v : BitVec 32} (h : v.toNat % 2 = 0) : crcBit v = v >>> 1 := by
  have e : v &&& 1#32 = 0#32 := by
    apply BitVec.eq_of_toNat_eq
    rw [BitVec.toNat_and]
    simp only [BitVec.toNat_ofNat, Nat.reducePow, Nat.reduceMod, Nat.and_one_is_mod]
    exact h
  unfold crcBit
  rw [e]
  simp
theorem crc_inner (call : CallF) (md : Bool) (N : Nat) (x i : AV) (h : Heap) (K : Ex → List AV → Heap → Option (AV × Heap)) :
    ∀ (m j n : Nat) (v : BitVec 32), j + m = 8 → m < n → ∃ y,
    loopK (fun next => runK C0 call md 63 N B63_1 (seqE next K)) n (st 33 [(0, x), (3, U32 v), (4, i), (5, .int .i64 j)]) h = K (.exit 2) (st 33 [(0, x), (3, U32 (crcBits m v)), (4, i), (5, y), (20, .bool false)]) h := by
  intro m
  induction m with
  | zero =>
    intro j n v hj hn
    obtain ⟨n, rfl⟩ : ∃ j, n = j + 1 := ⟨n - 1, by omega⟩
    obtain rfl : j = 8 := by omega
    refine ⟨.int .i64 ((8 : Nat) : Int), ?_⟩
    rw [loopK_succ]
    generalize loopK (_ : (List AV → Heap → Option (AV × Heap)) → List AV → Heap → Option (AV × Heap)) n = Lp
    have e : decide (((8 : Nat) : Int) < 8) = false := by decide
    simp -implicitDefEqProofs only [B63_1, ↓RK, RK, ↓RB, RB, decide_true, decide_false, STs, Nat.reduceBEq, ↓reduceIte, Nat.reduceLT, ↓R63, R63, bin_lss, e, crcBits]
  | succ m ih =>
    intro j n v hj hn
    obtain ⟨n, rfl⟩ : ∃ j, n = j + 1 := ⟨n - 1, by omega⟩
    have e : decide (((j : Nat) : Int) < 8) = true := decide_eq_true (by omega)
    have wr : IntKind.i64.wrap ((j : Int) + 1) = ((j + 1 : Nat) : Int) := by rw [wrap_i64] <;> omega
    have c1 : AV.int .u32 2197175160 = U32 2197175160#32 := u32_lit 2197175160 (by decide)
    obtain ⟨y, hy⟩ := ih (j + 1) n (crcBit v) (by omega) (by omega)
    refine ⟨y, ?_⟩
    rw [loopK_succ]
    rw [show crcBits (m + 1) v = crcBits m (crcBit v) from rfl, ← hy]
    generalize loopK (_ : (List AV → Heap → Option (AV × Heap)) → List AV → Heap → Option (AV × Heap)) n = Lp
    rcases Nat.mod_two_eq_zero_or_one v.toNat with h0 | h1
    · have e2 : decide (((v.toNat % 2 : Nat) : Int) = 1) = false := decide_eq_false (by omega)
      simp -implicitDefEqProofs only [B63_1, ↓RK, RK, ↓RB, RB, decide_true, decide_false, STs, Nat.reduceBEq, ↓reduceIte, Nat.reduceLT, ↓R63, R63, bin_lss, e, rem_u32, bin_eql, e2, quo_u32, crcBit_even h0, bin_add, wr]
    · have e2 : decide (((v.toNat % 2 : Nat) : Int) = 1) = true := decide_eq_true (by omega)
      simp -implicitDefEqProofs only [B63_1, ↓RK, RK, ↓RB, RB, decide_true, decide_false, STs, Nat.reduceBEq, ↓reduceIte, Nat.reduceLT, ↓R63, R63, bin_lss, e, rem_u32, bin_eql, e2, quo_u32, c1, u32_xor, crcBit_odd h1, bin_add, wr]
theorem crc_outer {x : AV} {l : List UInt8} (hx : Bs x l) (hl : l.length < 2 ^ 62) (call : CallF) (md : Bool) (N : Nat) (hN : 8 < N) (h : Heap) (K : Ex → List AV → Heap → Option (AV × Heap)) :
    ∀ (m i n : Nat) (v : BitVec 32), i + m = l.length → m < n →
    loopK (fun next => runK C0 call md 63 N B63_2 (seqE next K)) n (st 33 [(0, x), (3, U32 v), (4, .int .i64 i)]) h =
      K (.exit 0) (st 33 [(0, x), (3, U32 ((l.drop i).foldl crcByte v)), (4, .int .i64 l.length), (9, .bool false)]) h := by
  intro m
  induction m with
  | zero =>
    intro i n v hi hn
    obtain ⟨n, rfl⟩ : ∃ j, n = j + 1 := ⟨n - 1, by omega⟩
    obtain rfl : i = l.length := by omega
    rw [loopK_succ, List.drop_length]
    generalize loopK (_ : (List AV → Heap → Option (AV × Heap)) → List AV → Heap → Option (AV × Heap)) n = Lp
    have e : decide (((l.length : Nat) : Int) < (l.length : Nat)) = false := decide_eq_false (by omega)
    simp -implicitDefEqProofs only [B63_2, ↓RK, RK, ↓RB, RB, decide_true, decide_false, STs, Nat.reduceBEq, ↓reduceIte, Nat.reduceLT, ↓R63, R63, hx.len, bin_lss, e, List.foldl_nil]
  | succ m ih =>
    intro i n v hi hn
    obtain ⟨n, rfl⟩ : ∃ j, n = j + 1 := ⟨n - 1, by omega⟩
    obtain ⟨b, hb⟩ : ∃ b, l[i]? = some b := ⟨l[i]'(by omega), List.getElem?_eq_getElem _⟩
    have e : decide (((i : Nat) : Int) < (l.length : Nat)) = true := decide_eq_true (by omega)
    have wr : IntKind.i64.wrap ((i : Int) + 1) = ((i + 1 : Nat) : Int) := by rw [wrap_i64] <;> omega
    rw [drop_get hb, List.foldl_cons, ← ih (i + 1) n (crcByte v b) (by omega) (by omega), loopK_succ]
    generalize loopK (_ : (List AV → Heap → Option (AV × Heap)) → List AV → Heap → Option (AV × Heap)) n = Lp
    simp -implicitDefEqProofs only [B63_2, ↓RK, RK, ↓RB, RB, decide_true, decide_false, STs, Nat.reduceBEq, ↓reduceIte, Nat.reduceLT, ↓R63, R63, hx.len, bin_lss, e, hx.idx hb, load5, conv_8_32, u32_xor]
    obtain ⟨y, hy⟩ := crc_inner call md N x (.int .i64 i) h (blkE 2 (blkE 1 (seqE (runK C0 call md 63 N (.region 4 (O63 4) false) (seqE Lp K)) (seqE Lp K)))) 8 0 N (v ^^^ b.toBitVec.setWidth 32) (by omega) hN
    rw [show ((0 : Nat) : Int) = 0 from rfl] at hy
    rw [hy, show crcBits 8 (v ^^^ b.toBitVec.setWidth 32) = crcByte v b from rfl]
    simp -implicitDefEqProofs only [↓RK, RK, ↓RB, RB, decide_true, decide_false, STs, Nat.reduceBEq, ↓reduceIte, Nat.reduceLT, ↓R63, R63, bin_add, wr]
theorem rcrc_ok {x : AV} {l : List UInt8} (hx : Bs x l) (hl : l.length < 2 ^ 62) (md : Bool) (h : Heap) (k : Nat) (hk : l.length + 9 < k) : exFn C0 E0 (k + 1) md 63 [x] h = some (U32 (crc l), h) := by
  refine exFn_of e63 ?_
  have c1 : AV.int .u32 4294967295 = U32 4294967295#32 := u32_lit 4294967295 (by decide)
  rw [fnK, show ([x] ++ List.replicate (33 - [x].length) AV.undef) = st 33 [(0, x)] from rfl, s63]
  simp -implicitDefEqProofs only [↓RK, RK, ↓RB, RB, decide_true, decide_false, STs, Nat.reduceBEq, ↓reduceIte, Nat.reduceLT, ↓R63, R63, c1]
  rw [show AV.int .i64 0 = .int .i64 ((0 : Nat) : Int) from rfl, crc_outer hx hl _ md k (by omega) h _ l.length 0 k 4294967295#32 (by omega) (by omega)]
  simp -implicitDefEqProofs only [↓RK, RK, ↓RB, RB, decide_true, decide_false, STs, Nat.reduceBEq, ↓reduceIte, Nat.reduceLT, ↓R63, R63, List.drop_zero, u32_not]
  rfl
end Go.Ax

namespace Go.Ax
open Go Go.Proofs
def Calm (l : List (List UInt8)) : Dk := ⟨l, [], -1, false⟩
def parts (a : Nat) (b : List UInt8) (i m : Nat) : List (Nat × List UInt8) := (List.range' i m).map fun j => (a + j, pad (chunk b j))
theorem parts_succ (a : Nat) (b : List UInt8) (i m : Nat) : parts a b i (m + 1) = (a + i, pad (chunk b i)) :: parts a b (i + 1) m := by
  simp [parts, List.range'_succ]
theorem parts_snoc (a : Nat) (b : List UInt8) (i m : Nat) : parts a b i (m + 1) = parts a b i m ++ [(a + (i + m), pad (chunk b (i + m)))] := by
  simp [parts, List.range'_concat]
theorem chunk_length (b : List UInt8) (i : Nat) : (chunk b i).length ≤ 64 := by unfold chunk; rw [List.length_take]; omega
theorem pad_length (b : List UInt8) (h : b.length ≤ 64) : (pad b).length = 64 := by unfold pad; simp; omega
theorem calm_write (l : List (List UInt8)) (ws : List (Nat × List UInt8)) (a : Nat) (b : List UInt8) (ha : a < l.length) (hb : b.length ≤ 64) :
    (⟨l, ws, -1, false⟩ : Dk).write a b = (0, ⟨l, ws ++ [(a, pad b)], -1, false⟩) := by
  unfold Dk.write
  rw [if_neg (by rintro (h | h); exact h ⟨by omega, by simpa using ha⟩; omega)]
  simp [Dk.burn, Dk.add]
theorem calm_flush (l : List (List UInt8)) (ws : List (Nat × List UInt8)) : (⟨l, ws, -1, false⟩ : Dk).flush = (0, Calm (land l ws)) := by
  simp [Dk.flush, Dk.burn, Dk.now, Calm]
theorem calm_loop (l : List (List UInt8)) (a : Nat) (b : List UInt8) : ∀ (m i : Nat) (ws : List (Nat × List UInt8)), a + i + m ≤ l.length →
    layLoop a b m i ⟨l, ws, -1, false⟩ = (0, ⟨l, ws ++ parts a b i m, -1, false⟩) := by
  intro m
  induction m with
  | zero => intro i ws _; simp [layLoop, parts]
  | succ m ih =>
    intro i ws h
    have e : ((a : Int) + i) = ((a + i : Nat) : Int) := by omega
    have w := calm_write l ws (a + i) (chunk b i) (by omega) (chunk_length b i)
    rw [layLoop_go (by rw [e, w]), e, w, ih (i + 1) _ (by omega), parts_succ]
    simp
def nOf (b : List UInt8) : Nat := (sizeOf b.length).toNat
theorem nOf_eq (b : List UInt8) : (nOf b : Int) = sizeOf b.length := by unfold nOf sizeOf; omega
theorem nOf_eq' (b : List UInt8) : nOf b = 1 + (b.length + 63) / 64 := by unfold nOf sizeOf; omega
theorem head16_length (g : BitVec 32) (b : List UInt8) : (head16 g b).length = 16 := by simp [head16, head12, be4]
def laid (l : List (List UInt8)) (a : Nat) (gen : Int) (b : List UInt8) : List (List UInt8) := land l (parts a b 1 (nOf b - 1) ++ [(a, pad (head16 (BitVec.ofInt 32 gen) b))])
theorem land_append (l : List (List UInt8)) (u v : List (Nat × List UInt8)) : land l (u ++ v) = land (land l u) v := by simp [land]
theorem lay_calm (l : List (List UInt8)) (a : Nat) (e gen : Int) (b : List UInt8) (hb : b.length ≤ 8192) (h0 : 0 ≤ gen) (h1 : gen ≤ 2147483647) (he : (a : Int) ≤ e) (hn : sizeOf b.length ≤ min e l.length - a) :
    (Calm l).lay a e gen b = ((((a + nOf b : Nat) : Int), 0), Calm (laid l a gen b)) := by
  have hn1 := nOf_eq b
  have hn2 := nOf_eq' b
  have hloop := calm_loop l a b (nOf b - 1) 1 [] (by omega)
  rw [lay_go (d := Calm l) (l := (0, ⟨l, parts a b 1 (nOf b - 1), -1, false⟩)) (by omega) (by show ¬ (_ ∨ min e (l.length : Int) - _ < _); omega) hloop]
  have hlen : (land l (parts a b 1 (nOf b - 1))).length = l.length := land_length _ _
  have w := calm_write (land l (parts a b 1 (nOf b - 1))) [] a (head16 (BitVec.ofInt 32 gen) b) (by omega) (by rw [head16_length]; omega)
  simp only [calm_flush]
  rw [show (Calm (land l (parts a b 1 (nOf b - 1)))) = ⟨land l (parts a b 1 (nOf b - 1)), [], -1, false⟩ from rfl, w]
  simp only [List.nil_append, calm_flush]
  rw [if_neg (fun h => h rfl), if_neg (fun h => h rfl), if_neg (fun h => h rfl), if_neg (fun h => h rfl), laid, land_append, ← hn1]
  simp
theorem land_parts (l : List (List UInt8)) (a : Nat) (b : List UInt8) (i : Nat) : ∀ (m j : Nat), a + i + m ≤ l.length →
    (land l (parts a b i m))[j]? = if a + i ≤ j ∧ j < a + i + m then some (pad (chunk b (j - a))) else l[j]? := by
  intro m
  induction m with
  | zero => intro j _; rw [if_neg (by omega)]; simp [parts, land]
  | succ m ih =>
    intro j h
    rw [parts_snoc, land_snoc]
    simp only
    by_cases hj : a + (i + m) = j
    · subst hj
      rw [List.getElem?_set_self (by rw [land_length]; omega), if_pos (by omega)]
      congr 3; omega
    · rw [List.getElem?_set_ne hj, ih j (by omega)]
      by_cases h2 : a + i ≤ j ∧ j < a + i + m
      · rw [if_pos h2, if_pos (by omega)]
      · rw [if_neg h2, if_neg (by omega)]
theorem laid_length (l : List (List UInt8)) (a : Nat) (gen : Int) (b : List UInt8) : (laid l a gen b).length = l.length := land_length _ _
theorem laid_head (l : List (List UInt8)) (a : Nat) (gen : Int) (b : List UInt8) (h : a < l.length) : (laid l a gen b)[a]? = some (pad (head16 (BitVec.ofInt 32 gen) b)) := by
  rw [laid, land_snoc]; simp [land_length, h]
theorem laid_get (l : List (List UInt8)) (a : Nat) (gen : Int) (b : List UInt8) (h : a + nOf b ≤ l.length) (j : Nat) (hj : j ≠ a) :
    (laid l a gen b)[j]? = if a < j ∧ j < a + nOf b then some (pad (chunk b (j - a))) else l[j]? := by
  have hn2 := nOf_eq' b
  rw [laid, land_snoc, List.getElem?_set_ne (by omega), land_parts l a b 1 _ j (by omega)]
  by_cases h2 : a < j ∧ j < a + nOf b
  · rw [if_pos h2, if_pos (by omega)]
  · rw [if_neg h2, if_neg (by omega)]
theorem pad_take {b : List UInt8} : (pad b).take b.length = b := by simp [pad]
theorem all_zero (n : Nat) : (List.replicate n (0 : UInt8)).all (· == 0) = true := by simp
theorem pad_drop {b : List UInt8} : (pad b).drop b.length = List.replicate (64 - b.length) 0 := by simp [pad]
theorem body_chunks (now : List (List UInt8)) (a : Nat) (b : List UInt8) : ∀ m, 64 * m < b.length + 64 → (∀ j, 1 ≤ j → j ≤ m → now[a + j]? = some (pad (chunk b j))) →
    bodyAt now a m = b.take (64 * m) ++ List.replicate (64 * m - b.length) 0 := by
  intro m
  induction m with
  | zero => intro _ _; simp [bodyAt]
  | succ m ih =>
    intro hm hn
    rw [bodyAt_succ now a m _ (by rw [show a + 1 + m = a + (m + 1) by omega]; exact hn (m + 1) (by omega) (Nat.le_refl _)), ih (by omega) fun j h1 h2 => hn j h1 (by omega)]
    have z : 64 * m - b.length = 0 := by omega
    have tk : b.take (64 * (m + 1)) = b.take (64 * m) ++ chunk b (m + 1) := by
      rw [show 64 * (m + 1) = 64 * m + 64 by omega, List.take_add]; rfl
    have cl : (chunk b (m + 1)).length = min 64 (b.length - 64 * m) := by unfold chunk; simp
    rw [z, tk]
    unfold pad
    rw [cl, show 64 - min 64 (b.length - 64 * m) = 64 * (m + 1) - b.length by omega]
    simp
theorem one_at (now : List (List UInt8)) (a : Nat) (e gen : Int) (b : List UInt8) (hb : b.length ≤ 8192) (hh : now[a]? = some (pad (head16 (BitVec.ofInt 32 gen) b)))
    (he : (a : Int) < e) (hn : sizeOf b.length ≤ min e now.length - a) (hj : ∀ j, 1 ≤ j → j < nOf b → now[a + j]? = some (pad (chunk b j))) : oneOf now a e gen = some b := by
  have hn1 := nOf_eq b
  have hn2 := nOf_eq' b
  have hp : pad (head16 (BitVec.ofInt 32 gen) b) = be4 (BitVec.ofInt 32 gen) ++ (be4 (BitVec.ofNat 32 b.length) ++ (be4 (crc b) ++ (be4 (crc (head12 (BitVec.ofInt 32 gen) b)) ++ List.replicate 48 0))) := by
    unfold pad; rw [head16_length]; simp [head16, head12]
  have p0 : get4 (pad (head16 (BitVec.ofInt 32 gen) b)) = BitVec.ofInt 32 gen := by rw [hp, get4_be4]
  have p4 : get4 ((pad (head16 (BitVec.ofInt 32 gen) b)).drop 4) = BitVec.ofNat 32 b.length := by
    rw [hp, show ∀ (v : BitVec 32) r, (be4 v ++ r).drop 4 = r from fun _ _ => rfl, get4_be4]
  have p12 : get4 ((pad (head16 (BitVec.ofInt 32 gen) b)).drop 12) = crc (head12 (BitVec.ofInt 32 gen) b) := by
    rw [hp, show ∀ (u v w : BitVec 32) r, (be4 u ++ (be4 v ++ (be4 w ++ r))).drop 12 = r from fun _ _ _ _ => rfl, get4_be4]
  have t12 : (pad (head16 (BitVec.ofInt 32 gen) b)).take 12 = head12 (BitVec.ofInt 32 gen) b := by
    rw [hp]; rfl
  have t16 : (pad (head16 (BitVec.ofInt 32 gen) b)).take 16 = head16 (BitVec.ofInt 32 gen) b := by
    rw [hp]; rfl
  have d16 : (pad (head16 (BitVec.ofInt 32 gen) b)).drop 16 = List.replicate 48 0 := by
    rw [hp]; rfl
  have sz : (BitVec.ofNat 32 b.length).toNat = b.length := by simp; omega
  have bd := body_chunks now a b (nOf b - 1) (by omega) fun j h1 h2 => hj j h1 (by omega)
  rw [List.take_of_length_le (l := b) (by omega)] at bd
  have hgo := oneOf_go (now := now) (a := a) (nn := nOf b) (e := e) (gen := gen) hh (by rw [p0, t12, p12]; rintro (h | h | h); omega; exact h rfl; exact h rfl) (by rw [p4, sz]; omega) (by rw [p4, sz]; exact hn1.symm)
  rw [p4, sz] at hgo
  rw [hgo, bd, t16, d16, if_pos]
  · simp
  · refine ⟨by simp, all_zero _, ?_⟩
    simp
theorem crc_zero12 : crc (List.replicate 12 0) ≠ 0#32 := by decide +kernel
theorem one_blank (now : List (List UInt8)) (a : Nat) (e gen : Int) (hc : now[a]? = some (List.replicate 64 0)) : oneOf now a e gen = none := by
  refine oneOf_head hc (.inr ?_)
  by_cases h : get4 (List.replicate 64 0) = BitVec.ofInt 32 gen
  · right
    rw [List.take_replicate, List.drop_replicate]
    exact crc_zero12
  · exact .inl h
end Go.Ax

set_option linter.unusedVariables false
namespace Go.Ax
open Go Go.Proofs
noncomputable def O32 (i : Nat) : Array Oper := opsOf i (bodyOf Try.f32)
noncomputable def B32_1 : Code := (.seq (.seq (.region 4 (O32 4) false) (.cond (Go.Operand.tmp 31) .skip (.exit 0))) (.seq (.block 1 (.seq (.region 6 (O32 6) false) (.seq (.seq (.region 7 (O32 7) false) (.cond (Go.Operand.tmp 39) (.region 8 (O32 8) false) .skip)) (.region 9 (O32 9) false)))) (.region 5 (O32 5) false)))
theorem s32 : bodyOf Try.f32 = (.seq (.region 0 (O32 0) false) (.seq (.region 1 (O32 1) false) (.seq (.region 2 (O32 2) false) (.seq (.seq (.region 3 (O32 3) false) (.block 0 (.loop B32_1))) (.seq (.region 10 (O32 10) false) .ret))))) := by kernel_rfl
theorem e32 : E0 32 = some ⟨51, [4], bodyOf Try.f32⟩ := by kernel_rfl
theorem r32_0 (x0 x1 : AV) : RR O32 32 51 0 false [(0, x0), (1, x1)] fun _ call md k h =>
 k .normal (st 51 [(0, x0), (1, x1)]) h
 := fun _ _ _ _ _ _ => by kernel_rfl
theorem r32_1 (x0 x1 : AV) : RR O32 32 51 1 false [(0, x0), (1, x1)] fun _ call md k h =>
 bnd2 (call md 62 [x0] h) fun v1 h2 =>
 bnd (aLen tab 22 x1) fun v3 =>
 bnd2 (call md 62 [v3] h2) fun v4 h5 =>
 bnd2 (aApp tab 22 22 md v1 v4 h5) fun v6 h7 =>
 bnd2 (call md 63 [x1] h7) fun v8 h9 =>
 bnd (aConv tab 105 3 v8 h9) fun v10 =>
 bnd2 (call md 62 [v10] h9) fun v11 h12 =>
 bnd2 (aApp tab 22 22 md v6 v11 h12) fun v13 h14 =>
 k .normal (st 51 [(1, x1), (5, v13)]) h14
 := fun _ _ _ _ _ _ => by kernel_rfl
theorem r32_2 (x1 x5 : AV) : RR O32 32 51 2 false [(1, x1), (5, x5)] fun _ call md k h =>
 bnd2 (call md 63 [x5] h) fun v1 h2 =>
 bnd (aConv tab 105 3 v1 h2) fun v3 =>
 bnd2 (call md 62 [v3] h2) fun v4 h5 =>
 bnd2 (aApp tab 22 22 md x5 v4 h5) fun v6 h7 =>
 bnd2 (call md 21 [v6] h7) fun v8 h9 =>
 bnd (aLit tab 30 1 [(0, v8)]) fun v10 =>
 k .normal (st 51 [(1, x1), (6, v10)]) h9
 := fun _ _ _ _ _ _ => by kernel_rfl
theorem r32_3 (x1 x6 : AV) : RR O32 32 51 3 false [(1, x1), (6, x6)] fun _ call md k h =>
 k .normal (st 51 [(1, x1), (6, x6), (7, (.int .i64 0))]) h
 := fun _ _ _ _ _ _ => by kernel_rfl
theorem r32_4 (x1 x6 x7 : AV) : RR O32 32 51 4 false [(1, x1), (6, x6), (7, x7)] fun _ call md k h =>
 bnd (aLen tab 22 x1) fun v1 =>
 bnd (aBinC tab .lss 3 x7 v1 false) fun v2 =>
 k .normal (st 51 [(1, x1), (6, x6), (7, x7), (31, v2)]) h
 := fun _ _ _ _ _ _ => by kernel_rfl
theorem r32_5 (x1 x6 x7 : AV) : RR O32 32 51 5 false [(1, x1), (6, x6), (7, x7)] fun _ call md k h =>
 bnd (aBinC tab .add 3 x7 (.int .i64 64) true) fun v1 =>
 k .normal (st 51 [(1, x1), (6, x6), (7, v1)]) h
 := fun _ _ _ _ _ _ => by kernel_rfl
theorem r32_6 (x1 x6 x7 x31 : AV) : RR O32 32 51 6 false [(1, x1), (6, x6), (7, x7), (31, x31)] fun _ call md k h =>
 bnd (aBinC tab .add 3 x7 (.int .i64 64) true) fun v1 =>
 k .normal (st 51 [(1, x1), (6, x6), (7, x7), (8, v1)]) h
 := fun _ _ _ _ _ _ => by kernel_rfl
theorem r32_7 (x1 x6 x7 x8 : AV) : RR O32 32 51 7 false [(1, x1), (6, x6), (7, x7), (8, x8)] fun _ call md k h =>
 bnd (aLen tab 22 x1) fun v1 =>
 bnd (aBinC tab .gtr 3 x8 v1 false) fun v2 =>
 k .normal (st 51 [(1, x1), (6, x6), (7, x7), (8, x8), (39, v2)]) h
 := fun _ _ _ _ _ _ => by kernel_rfl
theorem r32_8 (x1 x6 x7 x8 x39 : AV) : RR O32 32 51 8 false [(1, x1), (6, x6), (7, x7), (8, x8), (39, x39)] fun _ call md k h =>
 bnd (aLen tab 22 x1) fun v1 =>
 k .normal (st 51 [(1, x1), (6, x6), (7, x7), (8, v1)]) h
 := fun _ _ _ _ _ _ => by kernel_rfl
theorem r32_9a (x1 x6 x7 x8 x39 : AV) : RR O32 32 51 9 false [(1, x1), (6, x6), (7, x7), (8, x8), (39, x39)] fun _ call md k h =>
 bnd (aSlice tab 22 x1 (some x7) (some x8) none) fun v1 =>
 bnd2 (call md 21 [v1] h) fun v2 h3 =>
 bnd (aLit tab 30 1 [(0, v2)]) fun v4 =>
 bnd2 (aApp tab 30 30 md x6 v4 h3) fun v5 h6 =>
 k .normal (st 51 [(1, x1), (6, v5), (7, x7)]) h6
 := fun _ _ _ _ _ _ => by kernel_rfl
theorem r32_9b (x1 x6 x7 x8 : AV) : RR O32 32 51 9 false [(1, x1), (6, x6), (7, x7), (8, x8)] fun _ call md k h =>
 bnd (aSlice tab 22 x1 (some x7) (some x8) none) fun v1 =>
 bnd2 (call md 21 [v1] h) fun v2 h3 =>
 bnd (aLit tab 30 1 [(0, v2)]) fun v4 =>
 bnd2 (aApp tab 30 30 md x6 v4 h3) fun v5 h6 =>
 k .normal (st 51 [(1, x1), (6, v5), (7, x7)]) h6
 := fun _ _ _ _ _ _ => by kernel_rfl
theorem r32_10 (x1 x6 x7 x31 : AV) : RR O32 32 51 10 false [(1, x1), (6, x6), (7, x7), (31, x31)] fun _ call md k h =>
 k .normal (st 51 [(4, x6)]) h
 := fun _ _ _ _ _ _ => by kernel_rfl
def R32 := And.intro @r32_0 <| And.intro @r32_1 <| And.intro @r32_2 <| And.intro @r32_3 <| And.intro @r32_4 <| And.intro @r32_5 <| And.intro @r32_6 <| And.intro @r32_7 <| And.intro @r32_8 <| And.intro @r32_9a <| And.intro @r32_9b <| @r32_10
end Go.Ax
