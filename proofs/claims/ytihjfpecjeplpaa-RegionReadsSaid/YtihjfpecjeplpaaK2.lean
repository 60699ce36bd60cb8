/- An interpreter of Go code over a small abstract heap, proved sound against the model (part 2); no condition. -/
import Derived.Test.YtihjfpecjeplpaaK1
import Derived.Tactics
import Derived.Shelf.Bytes.SlCountOne
import Derived.LoopN
import Derived.Test.YtihjfpecjeplpaaChecked
import Derived.Laws.Entries

/- Regions: operations in the text's order, and in any order that the edges allow. -/
namespace Go.Ax
open Go Go.RowKit
section
variable {P : Program} {T : Tab} {B : Nat} {w0 : World}

theorem put_vrl {J : Inj} {tm : List AV} {a : Act} (h : VRL T J tm a.tmps.toList) {v : AV} {x : Value} (hv : VR T J v x) (d : Option Tmp) : VRL T J (putT tm d v) (a.put d x).tmps.toList := by
  cases d with
  | none => exact h
  | some d =>
    have := h.set d hv
    simpa [putT, Act.put, Array.toList_setIfInBounds] using this

theorem put_defers (a : Act) (d : Option Tmp) (x : Value) : (a.put d x).defers = a.defers := by cases d <;> rfl

theorem guard_sound {J : Inj} {ops : Array Oper} {tm : List AV} {a : Act} {o : Oper} {b : Bool} (h : VRL T J tm a.tmps.toList) (hg : guardA ops tm o.guard = some b) :
    Region.wanted o (yielded ops a.tmps) = b := by
  unfold guardA at hg
  unfold Region.wanted
  cases hog : o.guard with
  | none => simp only [hog, Option.some.injEq] at hg ⊢; exact hg
  | some jw =>
    obtain ⟨j, want⟩ := jw
    simp only [hog] at hg ⊢
    cases hd : (ops[j]?).bind (·.dst) with
    | none => simp [hd] at hg
    | some d =>
      simp only [hd] at hg
      cases ht : tm[d]? with
      | none => simp [ht] at hg
      | some v =>
        simp only [ht] at hg
        split at hg
        · rename_i b' hb
          simp only [Option.some.injEq] at hb hg
          subst hb
          obtain ⟨x, hx, hvx⟩ := h.get? ht
          have hx' : a.tmps[d]? = some (.bool b') := by rw [← Array.getElem?_toList, hx, hvx.bool_inv]
          have : yielded ops a.tmps j = some b' := by
            unfold yielded
            rw [hd]
            simp only [Option.bind_some, hx']
          rw [this, ← hg]
          cases b' <;> cases want <;> rfl
        · rename_i hb
          simp only [Option.some.injEq] at hb hg
          subst hb hg
          obtain ⟨x, hx, hvx⟩ := h.get? ht
          have hx' : a.tmps[d]? = some undef := by
            rw [← Array.getElem?_toList, hx]
            cases hvx with
            | skip => rfl
            | cell c => cases c
          have : yielded ops a.tmps j = none := by
            unfold yielded
            rw [hd]
            simp only [Option.bind_some, hx']
            rfl
          rw [this]
          rfl
        · cases hg

section
variable {C : Cfg} {call : CallF} {mode : Bool} {f : FuncId} (F : Fits P T) (hC : C.T = T) (hcall : CallOk P T call)
include F hC hcall

theorem step_wp {J : Inj} {ops : Array Oper} {Q : Exit → Act → World → Prop} {i : Nat} {o : Oper} {tm : List AV} {h h' : Heap} {v : AV} {a : Act} {w : World} (hi : ops[i]? = some o)
    (hs : stepA C call mode f ops o tm h = some (v, h')) (R : Rel T B w0 J h w) (hv : VRL T J tm a.tmps.toList) (K : Act → World → Prop)
    (hK : ∀ J' x w', J.Le J' → VR T J' v x → Rel T B w0 J' h' w' → K (a.put o.dst x) w') : wpOp P ops Q i K a w := by
  unfold stepA at hs
  unfold wpOp
  rw [hi]
  cases hg : guardA ops tm o.guard with
  | none => simp [hg] at hs
  | some b =>
    have hw := guard_sound hv hg
    cases b with
    | true =>
      simp only [hg] at hs
      simp only [hw, if_true]
      exact .inl (exOp_goes F hC hcall R (fun x => evalA_VR hv x) hs K Q hK)
    | false =>
      simp only [hg, Option.some.injEq, Prod.mk.injEq] at hs
      obtain ⟨rfl, rfl⟩ := hs
      simp only [hw, Bool.false_eq_true, if_false]
      exact hK J undef w (Inj.Le.refl _) .skip R

theorem runOps_sound {ops : Array Oper} {Q : Exit → Act → World → Prop} : ∀ (l : List Oper) (k : Nat), (∀ j, l[j]? = ops[k + j]?) →
    ∀ {J : Inj} {tm tm' : List AV} {h h' : Heap} {a : Act} {w : World}, runOps C call mode f ops l tm h = some (tm', h') → Rel T B w0 J h w → VRL T J tm a.tmps.toList →
    (∀ J' a' w', J.Le J' → VRL T J' tm' a'.tmps.toList → a'.defers = a.defers → Rel T B w0 J' h' w' → Q .normal a' w') → wpOps P ops Q (List.range' k l.length) a w
  | [], k, _, J, tm, tm', h, h', a, w, hr, R, hv, hQ => by
    simp only [runOps, Option.some.injEq, Prod.mk.injEq] at hr
    obtain ⟨rfl, rfl⟩ := hr
    exact hQ J a w (Inj.Le.refl _) hv rfl R
  | o :: l, k, hk, J, tm, tm', h, h', a, w, hr, R, hv, hQ => by
    simp only [runOps] at hr
    cases hs : stepA C call mode f ops o tm h with
    | none => simp [hs] at hr
    | some vh =>
      obtain ⟨v, h1⟩ := vh
      simp only [hs] at hr
      rw [List.length_cons, List.range'_succ, wpOps_cons]
      refine step_wp F hC hcall (by simpa using (hk 0).symm) hs R hv _ fun J' x w' hle hvx R' => ?_
      refine runOps_sound l (k + 1) (fun j => by have := hk (j + 1); simpa [Nat.add_assoc, Nat.add_comm 1 j] using this) hr R' (put_vrl (hv.le hle) hvx _) fun J'' a' w'' hle' hv'' hd R'' => ?_
      exact hQ J'' a' w'' (hle.trans hle') hv'' (by rw [hd, put_defers]) R''
end

/-! ### Any order -/

theorem fold_bits (acc : List Nat) (i : Nat) : ∀ (es : List Edge) (s : Nat), (es.foldl (fun s e => if Region.binds .any e then s ||| (2 ^ e.on) ||| acc.getD e.on 0 else s) s).testBit i = true →
    s.testBit i = true ∨ ∃ e ∈ es, Region.binds .any e = true ∧ (i = e.on ∨ (acc.getD e.on 0).testBit i = true)
  | [], s, h => .inl h
  | e :: es, s, h => by
    simp only [List.foldl_cons] at h
    rcases fold_bits acc i es _ h with h1 | ⟨e', he', h1⟩
    · by_cases hb : Region.binds .any e = true
      · simp only [hb, if_true, Nat.testBit_or, Bool.or_eq_true] at h1
        rcases h1 with (h1 | h1) | h1
        · exact .inl h1
        · refine .inr ⟨e, by simp, hb, .inl ?_⟩
          rw [Nat.testBit_two_pow] at h1
          exact (by simpa using h1 : e.on = i).symm
        · exact .inr ⟨e, by simp, hb, .inr h1⟩
      · simp only [hb, Bool.false_eq_true, if_false] at h1
        exact .inl h1
    · exact .inr ⟨e', by simp [he'], h1⟩

theorem masks_get : ∀ (l : List Oper) (acc : List Nat) (j : Nat), (j < acc.length → (masks l acc)[j]? = acc[j]?) ∧
    (acc.length ≤ j → ∀ o, l[j - acc.length]? = some o → ∃ acc' : List Nat, acc'.length = j ∧ (∀ i, i < j → acc'[i]? = (masks l acc)[i]?) ∧
      (masks l acc)[j]? = some (o.after.toList.foldl (fun s e => if Region.binds .any e then s ||| (2 ^ e.on) ||| acc'.getD e.on 0 else s) 0))
  | [], acc, j => ⟨fun _ => rfl, fun _ o h => by simp at h⟩
  | o :: l, acc, j => by
    have ih := masks_get l (acc ++ [o.after.toList.foldl (fun s e => if Region.binds .any e then s ||| (2 ^ e.on) ||| acc.getD e.on 0 else s) 0])
    constructor
    · intro hj
      have := (ih j).1 (by simp; omega)
      simp only [masks]
      rw [this, List.getElem?_append_left hj]
    · intro hj o' ho'
      simp only [masks]
      by_cases he : j = acc.length
      · subst he
        simp only [Nat.sub_self, List.getElem?_cons_zero, Option.some.injEq] at ho'
        subst ho'
        refine ⟨acc, rfl, fun i hi => ?_, ?_⟩
        · rw [(ih i).1 (by simp; omega), List.getElem?_append_left hi]
        · rw [(ih acc.length).1 (by simp), List.getElem?_append_right (Nat.le_refl _)]
          simp
      · have hj' : acc.length + 1 ≤ j := by omega
        refine (ih j).2 (by simpa using hj') o' ?_
        rw [List.length_append, List.length_singleton]
        rw [show j - acc.length = (j - (acc.length + 1)) + 1 by omega] at ho'
        simpa using ho'

/-- What is closed under the edges is closed under 'must go ahead'. -/
theorem ord_closed {ops : List Oper} {X : Nat → Prop} (hlt : ∀ (j : Nat) (o : Oper), ops[j]? = some o → ∀ e ∈ o.after.toList, Region.binds .any e = true → e.on < j)
    (hX : ∀ (j : Nat) (o : Oper), X j → ops[j]? = some o → ∀ e ∈ o.after.toList, Region.binds .any e = true → X e.on) :
    ∀ (j : Nat), X j → j < ops.length → ∀ i, ord (masks ops []) i j = true → X i ∧ i < j := by
  intro j
  induction j using Nat.strongRecOn with
  | _ j ih =>
    intro hj hlen i hi
    have ho := List.getElem?_eq_getElem hlen
    obtain ⟨acc', hl, hacc, hm⟩ := (masks_get ops [] j).2 (Nat.zero_le _) ops[j] (by simp)
    unfold ord at hi
    rw [List.getD_eq_getElem?_getD, hm] at hi
    simp only [Option.getD_some] at hi
    rcases fold_bits acc' i _ _ hi with h1 | ⟨e, he, hb, h1⟩
    · simp at h1
    · have hon := hlt j _ ho e he hb
      have hXe := hX j _ hj ho e he hb
      rcases h1 with rfl | h1
      · exact ⟨hXe, hon⟩
      · have := ih e.on hon hXe (by omega) i (by
          unfold ord
          rw [List.getD_eq_getElem?_getD] at h1 ⊢
          rwa [← hacc e.on hon])
        exact ⟨this.1, by omega⟩

theorem ord_lt {ops : List Oper} (hlt : ∀ (j : Nat) (o : Oper), ops[j]? = some o → ∀ e ∈ o.after.toList, Region.binds .any e = true → e.on < j) {i j : Nat} (hj : j < ops.length)
    (h : ord (masks ops []) i j = true) : i < j :=
  (ord_closed (X := fun _ => True) hlt (fun _ _ _ _ _ _ _ => trivial) j trivial hj i h).2

/-- The slots behind some operations, of which each has come to its value. -/
def putAll (ops : List Oper) (val : Nat → AV) (tm : List AV) (L : List Nat) : List AV :=
  L.foldl (fun tm i => match ops[i]? with
    | some o => putT tm o.dst (val i)
    | none => tm) tm

theorem putT_length (tm : List AV) (d : Option Tmp) (v : AV) : (putT tm d v).length = tm.length := by cases d <;> simp [putT]

theorem putAll_length (ops : List Oper) (val : Nat → AV) : ∀ (L : List Nat) (tm : List AV), (putAll ops val tm L).length = tm.length
  | [], _ => rfl
  | i :: L, tm => by
    simp only [putAll, List.foldl_cons]
    have := putAll_length ops val L (match ops[i]? with | some o => putT tm o.dst (val i) | none => tm)
    simp only [putAll] at this
    rw [this]
    cases ops[i]? <;> simp [putT_length]

/-- Does operation i write slot t? -/
def writes (ops : List Oper) (t : Nat) (i : Nat) : Bool :=
  match ops[i]? with
  | some o => o.dst == some t
  | none => false

theorem putAll_get (ops : List Oper) (val : Nat → AV) (t : Nat) : ∀ (L : List Nat) (tm : List AV), (putAll ops val tm L)[t]? =
    match (L.filter (writes ops t)).getLast? with
    | some i => if t < tm.length then some (val i) else none
    | none => tm[t]?
  | [], _ => rfl
  | i :: L, tm => by
    simp only [putAll, List.foldl_cons]
    have ih := putAll_get ops val t L (match ops[i]? with | some o => putT tm o.dst (val i) | none => tm)
    simp only [putAll] at ih
    rw [ih]
    have hlen : (match ops[i]? with | some o => putT tm o.dst (val i) | none => tm).length = tm.length := by cases ops[i]? <;> simp [putT_length]
    by_cases hw : writes ops t i = true
    · rw [List.filter_cons_of_pos hw]
      cases hl : (L.filter (writes ops t)).getLast? with
      | some k =>
        have hne : L.filter (writes ops t) ≠ [] := fun e => by rw [e] at hl; simp at hl
        rw [List.getLast?_cons, hl]
        simp only [hlen, Option.getD_some]
      | none =>
        have he : L.filter (writes ops t) = [] := List.getLast?_eq_none_iff.1 hl
        rw [he]
        simp only [List.getLast?_singleton]
        unfold writes at hw
        cases ho : ops[i]? with
        | none => simp [ho] at hw
        | some o =>
          simp only [ho, beq_iff_eq] at hw
          simp only [putT, hw, List.getElem?_set]
          simp
    · rw [List.filter_cons_of_neg hw]
      simp only [hlen]
      have : (match ops[i]? with | some o => putT tm o.dst (val i) | none => tm)[t]? = tm[t]? := by
        cases ho : ops[i]? with
        | none => rfl
        | some o =>
          simp only
          unfold writes at hw
          simp only [ho, beq_iff_eq] at hw
          cases hd : o.dst with
          | none => rfl
          | some d =>
            simp only [putT, List.getElem?_set]
            rw [if_neg (fun e => hw (by rw [hd, e]))]
      rw [this]

/-- Two sets of operations in which a slot has the same writers leave it alike. -/
theorem putAll_same (ops : List Oper) (val : Nat → AV) (tm : List AV) (t : Nat) {L L' : List Nat} (h : L.filter (writes ops t) = L'.filter (writes ops t)) :
    (putAll ops val tm L)[t]? = (putAll ops val tm L')[t]? := by
  rw [putAll_get, putAll_get, h]

section
variable {C : Cfg} {call : CallF} {mode : Bool} {f : FuncId}

/-- What a trace says of each of its places. -/
theorem trace_spec {ops : Array Oper} : ∀ {l : List Oper} {tm : List AV} {h : Heap} {tr : List (List AV × Heap × AV)} {tm' : List AV} {h' : Heap},
    traceOps C call mode f ops l tm h = some (tr, tm', h') → tr.length = l.length ∧
    ∀ i, i < l.length → ∃ o t hp v h2, l[i]? = some o ∧ tr[i]? = some (t, hp, v) ∧ stepA C call mode f ops o t hp = some (v, h2) ∧
      (i = 0 → t = tm ∧ hp = h) ∧
      (∀ t2 hp2 v2, tr[i + 1]? = some (t2, hp2, v2) → t2 = putT t o.dst v ∧ hp2 = h2) ∧ (i + 1 = l.length → tm' = putT t o.dst v ∧ h' = h2)
  | [], tm, h, tr, tm', h', ht => by
    simp only [traceOps, Option.some.injEq, Prod.mk.injEq] at ht
    obtain ⟨rfl, rfl, rfl⟩ := ht
    exact ⟨rfl, fun i hi => by simp at hi⟩
  | o :: l, tm, h, tr, tm', h', ht => by
    simp only [traceOps] at ht
    cases hs : stepA C call mode f ops o tm h with
    | none => simp [hs] at ht
    | some vh =>
      obtain ⟨v, h1⟩ := vh
      simp only [hs] at ht
      cases hr : traceOps C call mode f ops l (putT tm o.dst v) h1 with
      | none => simp [hr] at ht
      | some x =>
        obtain ⟨tr', tm'', h''⟩ := x
        simp only [hr, Option.some.injEq, Prod.mk.injEq] at ht
        obtain ⟨rfl, rfl, rfl⟩ := ht
        obtain ⟨hl, hi⟩ := trace_spec hr
        refine ⟨by simp [hl], fun i hlt => ?_⟩
        cases i with
        | zero =>
          refine ⟨o, tm, h, v, h1, rfl, rfl, hs, fun _ => ⟨rfl, rfl⟩, fun t2 hp2 v2 h2 => ?_, fun hlen => ?_⟩
          · simp only [Nat.zero_add, List.getElem?_cons_succ] at h2
            have hlt2 : 0 < l.length := by have := (List.getElem?_eq_some_iff.1 h2).1; omega
            obtain ⟨o2, t3, hp3, v3, h3, e1, e2, e3, e4, -, -⟩ := hi 0 hlt2
            rw [h2] at e2
            simp only [Option.some.injEq, Prod.mk.injEq] at e2
            obtain ⟨rfl, rfl, rfl⟩ := e2
            exact e4 rfl
          · have : l = [] := List.eq_nil_of_length_eq_zero (by simpa using hlen)
            subst this
            simp only [traceOps, Option.some.injEq, Prod.mk.injEq] at hr
            exact ⟨hr.2.1.symm, hr.2.2.symm⟩
        | succ i =>
          obtain ⟨o2, t, hp, v2, h2, e1, e2, e3, -, e5, e6⟩ := hi i (by simpa using hlt)
          exact ⟨o2, t, hp, v2, h2, by simpa using e1, by simpa using e2, e3, fun h => by omega, fun t2 hp2 v3 h3 => e5 t2 hp2 v3 (by simpa using h3), fun hlen => e6 (by simpa using hlen)⟩
end
end
end Go.Ax

/- A region whose order is open comes to the same in every order. -/
namespace Go.Ax
open Go Go.RowKit

theorem range_split {i n : Nat} (h : i ≤ n) : List.range n = List.range i ++ List.range' i (n - i) := by
  have h2 := @List.range'_append_1 0 i (n - i)
  rw [List.range_eq_range', List.range_eq_range']
  rw [Nat.zero_add] at h2
  rw [h2]
  congr 1
  omega

theorem filter_upto {n i : Nat} (h : i ≤ n) {p q : Nat → Bool} (h1 : ∀ j, j < i → p j = q j) (h2 : ∀ j, i ≤ j → j < n → p j = false) : (List.range n).filter p = (List.range i).filter q := by
  rw [range_split h, List.filter_append]
  have e1 : (List.range' i (n - i)).filter p = [] := by
    rw [List.filter_eq_nil_iff]
    intro j hj
    rw [List.mem_range'_1] at hj
    rw [h2 j hj.1 (by omega)]
    simp
  rw [e1, List.append_nil]
  exact List.filter_congr fun j hj => h1 j (List.mem_range.1 hj)

theorem last_upto {n i : Nat} (h : i < n) {p : Nat → Bool} (hi : p i = true) (h2 : ∀ j, i < j → j < n → p j = false) : ((List.range n).filter p).getLast? = some i := by
  rw [filter_upto (q := p) (show i + 1 ≤ n by omega) (fun _ _ => rfl) (fun j hj hn => h2 j (by omega) hn), List.range_succ, List.filter_append, List.filter_cons_of_pos hi, List.filter_nil]
  simp

section
variable {P : Program} {T : Tab} {B : Nat} {w0 : World}
variable {C : Cfg} {call : CallF} {mode : Bool} {f : FuncId}

/-- A region that was run in the text's order, with all that is asked of it. -/
structure Ran (C : Cfg) (call : CallF) (mode : Bool) (f : FuncId) (ops : Array Oper) (tm : List AV) (h : Heap) (stT : Nat → List AV) (stH : Nat → Heap) (val : Nat → AV) : Prop where
  step : ∀ (i : Nat) (o : Oper), ops.toList[i]? = some o → stepA C call mode f ops o (stT i) (stH i) = some (val i, stH (i + 1))
  slots : ∀ i, i ≤ ops.size → stT i = putAll ops.toList val tm (List.range i)
  start : stH 0 = h
  edges : ∀ (j : Nat) (o : Oper), ops.toList[j]? = some o → ∀ e ∈ o.after.toList, Region.binds .any e = true → e.on < j
  pairs : ∀ (i j : Nat) (o' o : Oper), i < j → ops.toList[i]? = some o' → ops.toList[j]? = some o → ord (masks ops.toList []) i j = true ∨ (¬ (isEff C f o' = true ∧ isEff C f o = true) ∧ Oper.apart ops o' o = true)
  reads : ∀ (i e : Nat) (o o' : Oper), ops.toList[i]? = some o → ops.toList[e]? = some o' → isRead C f o = true → isEff C f o' = true → guardA ops (stT i) o.guard = some true →
    ord (masks ops.toList []) i e = false → ord (masks ops.toList []) e i = false → exRead C.T (evalA (stT i)) o (stH (if i < e then e + 1 else e)) = some (val i)

theorem kind_pure {o : Oper} (h1 : isEff C f o = false) (h2 : isRead C f o = false) : isFrz C f o = false ∧ opKind C f o = .pure := by
  unfold isEff at h1
  unfold isRead at h2
  unfold kindOf at h1 h2
  cases hz : isFrz C f o with
  | true => rw [hz] at h1; simp at h1
  | false =>
    rw [hz] at h1 h2
    simp only [Bool.false_eq_true, if_false] at h1 h2
    refine ⟨rfl, ?_⟩
    cases ho : opKind C f o <;> simp_all

theorem kind_read {o : Oper} (h2 : isRead C f o = true) : isFrz C f o = false ∧ opKind C f o = .read := by
  unfold isRead kindOf at h2
  cases hz : isFrz C f o with
  | true => rw [hz] at h2; simp at h2
  | false =>
    rw [hz] at h2
    simp only [Bool.false_eq_true, if_false] at h2
    exact ⟨rfl, by simpa using h2⟩

/-- What an operation that is no effect comes to. -/
theorem exOp_pure {o : Oper} {ρ : Operand → AV} {h h' : Heap} {v : AV} (h1 : isEff C f o = false) (h2 : isRead C f o = false) (he : exOp C call mode f ρ o h = some (v, h')) :
    h' = h ∧ ∀ g, exOp C call mode f ρ o g = some (v, g) := by
  obtain ⟨hz, hk⟩ := kind_pure h1 h2
  unfold exOp exBase at he ⊢
  rw [hk, hz] at he
  rw [hk, hz]
  simp only [Bool.false_eq_true, if_false] at he ⊢
  cases hp : exPure C.T ρ o with
  | none => simp [hp] at he
  | some v' =>
    simp only [hp, Option.some.injEq, Prod.mk.injEq] at he ⊢
    exact ⟨he.2.symm, fun g => ⟨he.1, trivial⟩⟩

theorem exOp_read {o : Oper} {ρ : Operand → AV} {h h' : Heap} {v : AV} (h2 : isRead C f o = true) (he : exOp C call mode f ρ o h = some (v, h')) :
    h' = h ∧ exRead C.T ρ o h = some v ∧ ∀ g, exRead C.T ρ o g = some v → exOp C call mode f ρ o g = some (v, g) := by
  obtain ⟨hz, hk⟩ := kind_read h2
  unfold exOp exBase at he ⊢
  rw [hk, hz] at he
  rw [hk, hz]
  simp only [Bool.false_eq_true, if_false] at he ⊢
  cases hp : exRead C.T ρ o h with
  | none => simp [hp] at he
  | some v' =>
    simp only [hp, Option.some.injEq, Prod.mk.injEq] at he ⊢
    exact ⟨he.2.symm, he.1, fun g hg => by simp [hg]⟩

section
variable {ops : Array Oper} {tm : List AV} {h : Heap} {stT : Nat → List AV} {stH : Nat → Heap} {val : Nat → AV}

/-- Only an effect turns the heap. -/
theorem Ran.quiet (r : Ran C call mode f ops tm h stT stH val) {i : Nat} {o : Oper} (ho : ops.toList[i]? = some o) (he : isEff C f o = false) : stH (i + 1) = stH i := by
  have hs := r.step i o ho
  unfold stepA at hs
  split at hs
  · cases hr : isRead C f o with
    | true => exact (exOp_read hr hs).1
    | false => exact (exOp_pure he hr hs).1
  · simp only [Option.some.injEq, Prod.mk.injEq] at hs; exact hs.2.symm
  · cases hs

theorem Ran.quiets (r : Ran C call mode f ops tm h stT stH val) {a : Nat} : ∀ (b : Nat), a ≤ b → b ≤ ops.size → (∀ (j : Nat) (o : Oper), a ≤ j → j < b → ops.toList[j]? = some o → isEff C f o = false) → stH b = stH a := by
  intro b
  induction b with
  | zero => intro h1 _ _; rw [show a = 0 by omega]
  | succ b ih =>
    intro h1 h2 h3
    by_cases he : a = b + 1
    · rw [he]
    · have ho : ops.toList[b]? = some ops.toList[b] := List.getElem?_eq_getElem (by rw [Array.length_toList]; omega)
      rw [r.quiet ho (h3 b _ (by omega) (by omega) ho)]
      exact ih (by omega) (by omega) fun j o hj1 hj2 => h3 j o hj1 (by omega)

/-- The operations that are done, in the text's order. -/
def doneL (n : Nat) (listed : Array Bool) : List Nat := (List.range n).filter fun j => listed.getD j false

/-- What holds behind some operations. -/
structure Inv (C : Cfg) (f : FuncId) (ops : Array Oper) (tm : List AV) (stH : Nat → Heap) (val : Nat → AV) (listed : Array Bool) (tmc : List AV) (hc : Heap) : Prop where
  size : listed.size = ops.size
  slots : tmc = putAll ops.toList val tm (doneL ops.size listed)
  heap : ∃ k, k ≤ ops.size ∧ hc = stH k ∧ ∀ (i : Nat) (o : Oper), ops.toList[i]? = some o → isEff C f o = true → (listed.getD i false = true ↔ i < k)
  closed : ∀ (j : Nat) (o : Oper), listed.getD j false = true → ops.toList[j]? = some o → ∀ e ∈ o.after.toList, Region.binds .any e = true → listed.getD e.on false = true

theorem Inv.ordered (r : Ran C call mode f ops tm h stT stH val) {listed : Array Bool} {tmc hc} (I : Inv C f ops tm stH val listed tmc hc) {i j : Nat} (hj : listed.getD j false = true) (hlt : j < ops.size)
    (ho : ord (masks ops.toList []) i j = true) : listed.getD i false = true :=
  (ord_closed (X := fun j => listed.getD j false = true) r.edges I.closed j hj (by rw [Array.length_toList]; exact hlt) i ho).1

/-- Is one ready, all that must go ahead of it is done. -/
theorem Inv.ahead (r : Ran C call mode f ops tm h stT stH val) {listed : Array Bool} {tmc hc} (I : Inv C f ops tm stH val listed tmc hc) {i j : Nat} {o : Oper} (hj : ops.toList[j]? = some o)
    (hready : ∀ e ∈ o.after.toList, Region.binds .any e = true → listed.getD e.on false = true) (ho : ord (masks ops.toList []) i j = true) : listed.getD i false = true := by
  have hlt : j < ops.toList.length := (List.getElem?_eq_some_iff.1 hj).1
  have := ord_closed (ops := ops.toList) (X := fun q => listed.getD q false = true ∨ q = j) r.edges (fun q o' hq hoq e he hb => by
    rcases hq with hq | rfl
    · exact .inl (I.closed q o' hq hoq e he hb)
    · rw [hj] at hoq; cases hoq; exact .inl (hready e he hb)) j (.inr rfl) hlt i ho
  rcases this.1 with h1 | h1
  · exact h1
  · omega

theorem apart_left {x y : Oper} {d : Nat} (h : Oper.apart ops x y = true) (hd : x.dst = some d) : d ∉ y.looksAt ops ∧ y.dst ≠ some d := ⟨(Oper.apart_spec h).1 d hd, (Oper.apart_spec h).2.1 d hd⟩
theorem apart_right {x y : Oper} {d : Nat} (h : Oper.apart ops x y = true) (hd : y.dst = some d) : d ∉ x.looksAt ops := (Oper.apart_spec h).2.2 d hd

theorem writes_get {t i : Nat} (h : writes ops.toList t i = true) : ∃ o, ops.toList[i]? = some o ∧ o.dst = some t := by
  unfold writes at h
  cases ho : ops.toList[i]? with
  | none => simp [ho] at h
  | some o => exact ⟨o, rfl, by simpa [ho] using h⟩

/-- THE STEP: an operation that is ready comes to what it came to in the text's order. -/
theorem Inv.step (r : Ran C call mode f ops tm h stT stH val) {listed : Array Bool} {tmc : List AV} {hc : Heap} (I : Inv C f ops tm stH val listed tmc hc) {i : Nat} {o : Oper} (ho : ops.toList[i]? = some o)
    (hn : listed.getD i false = false) (hready : ∀ e ∈ o.after.toList, Region.binds .any e = true → listed.getD e.on false = true) :
    ∃ hc', stepA C call mode f ops o tmc hc = some (val i, hc') ∧ Inv C f ops tm stH val (listed.setIfInBounds i true) (putT tmc o.dst (val i)) hc' := by
  have hi : i < ops.size := by have := (List.getElem?_eq_some_iff.1 ho).1; rwa [Array.length_toList] at this
  have ahead := fun {j : Nat} (hj : ord (masks ops.toList []) j i = true) => I.ahead r ho hready hj
  have behind : ∀ {j : Nat}, j < ops.size → ord (masks ops.toList []) i j = true → listed.getD j false = false := fun {j} hjn hj => by
    cases hl : listed.getD j false with
    | false => rfl
    | true => have := I.ordered r hl hjn hj; rw [hn] at this; cases this
  -- the slots that it looks at are as they were
  have agree : ∀ t, t ∈ o.looksAt ops → tmc[t]? = (stT i)[t]? := by
    intro t ht
    rw [I.slots, r.slots i (by omega)]
    refine putAll_same _ _ _ _ ?_
    unfold doneL
    rw [List.filter_filter]
    refine filter_upto (by omega) (fun j hj => ?_) (fun j hj1 hj2 => ?_)
    · cases hw : writes ops.toList t j with
      | false => simp
      | true =>
        obtain ⟨o', ho', hd'⟩ := writes_get hw
        rcases r.pairs j i o' o hj ho' ho with h1 | ⟨-, h1⟩
        · simpa using ahead h1
        · exact absurd ht (apart_left h1 hd').1
    · cases hw : writes ops.toList t j with
      | false => simp
      | true =>
        obtain ⟨o', ho', hd'⟩ := writes_get hw
        by_cases hji : j = i
        · subst hji; simpa using hn
        · rcases r.pairs i j o o' (by omega) ho ho' with h1 | ⟨-, h1⟩
          · simpa using behind hj2 h1
          · exact absurd ht (apart_right h1 hd')
  have hguard : guardA ops tmc o.guard = guardA ops (stT i) o.guard := by
    unfold guardA
    cases hg : o.guard with
    | none => rfl
    | some jw =>
      obtain ⟨j, want⟩ := jw
      simp only
      cases hd : (ops[j]?).bind (·.dst) with
      | none => rfl
      | some d =>
        have : d ∈ o.looksAt ops := by
          unfold Oper.looksAt
          rw [hg]
          simp only [hd]
          exact List.mem_append.2 (.inr (by simp))
        simp only [agree d this]
  have hops : ∀ x ∈ o.op.operands.toList, evalA tmc x = evalA (stT i) x := by
    intro x hx
    cases x with
    | tmp t =>
      have : t ∈ o.looksAt ops := by
        unfold Oper.looksAt
        exact List.mem_append.2 (.inl (List.mem_filterMap.2 ⟨_, hx, rfl⟩))
      simp only [evalA, List.getD_eq_getElem?_getD, agree t this]
    | _ => rfl
  obtain ⟨k, hk, hhc, hkeff⟩ := I.heap
  have hstep := r.step i o ho
  have effdone : ∀ (j : Nat) (o' : Oper), ops.toList[j]? = some o' → isEff C f o' = true → j < i → isEff C f o = true → listed.getD j false = true := by
    intro j o' ho' he' hji he
    rcases r.pairs j i o' o hji ho' ho with h1 | ⟨h1, -⟩
    · exact ahead h1
    · exact absurd ⟨he', he⟩ h1
  have efflater : ∀ (j : Nat) (o' : Oper), ops.toList[j]? = some o' → isEff C f o' = true → i < j → isEff C f o = true → listed.getD j false = false := by
    intro j o' ho' he' hji he
    have hjn : j < ops.size := by have := (List.getElem?_eq_some_iff.1 ho').1; rwa [Array.length_toList] at this
    rcases r.pairs i j o o' hji ho ho' with h1 | ⟨h1, -⟩
    · exact behind hjn h1
    · exact absurd ⟨he, he'⟩ h1
  -- what it comes to, and the heap behind it
  have hval : ∃ hc', stepA C call mode f ops o tmc hc = some (val i, hc') ∧ ∃ k', k' ≤ ops.size ∧ hc' = stH k' ∧
      ∀ (j : Nat) (o' : Oper), ops.toList[j]? = some o' → isEff C f o' = true → ((listed.setIfInBounds i true).getD j false = true ↔ j < k') := by
    have hset : ∀ j, j ≠ i → (listed.setIfInBounds i true).getD j false = listed.getD j false := fun j hj => getD_set_ne false (fun e => hj e.symm)
    have hsame : isEff C f o = false → ∀ (j : Nat) (o' : Oper), ops.toList[j]? = some o' → isEff C f o' = true → ((listed.setIfInBounds i true).getD j false = true ↔ j < k) := by
      intro he j o' ho' he'
      have hji : j ≠ i := fun e => by subst e; rw [ho] at ho'; cases ho'; rw [he] at he'; cases he'
      rw [hset j hji]
      exact hkeff j o' ho' he'
    unfold stepA at hstep ⊢
    rw [hguard]
    cases hg : guardA ops (stT i) o.guard with
    | none => simp [hg] at hstep
    | some b =>
      cases b with
      | false =>
        simp only [hg, Option.some.injEq, Prod.mk.injEq] at hstep ⊢
        refine ⟨hc, ⟨hstep.1, rfl⟩, ?_⟩
        cases he : isEff C f o with
        | false => exact ⟨k, hk, hhc, hsame he⟩
        | true =>
          have hki : k ≤ i := by
            rcases Nat.lt_or_ge i k with h1 | h1
            · have := (hkeff i o ho he).2 h1; rw [hn] at this; cases this
            · exact h1
          have hq : stH i = stH k := r.quiets i hki (by omega) fun j o' hj1 hj2 ho' => by
            cases he' : isEff C f o' with
            | false => rfl
            | true => have := (hkeff j o' ho' he').1 (effdone j o' ho' he' hj2 he); omega
          refine ⟨i + 1, by omega, by rw [hhc, ← hq, ← hstep.2], fun j o' ho' he' => ?_⟩
          rcases Nat.lt_trichotomy j i with hlt | rfl | hgt
          · rw [hset j (by omega)]
            exact ⟨fun _ => by omega, fun _ => effdone j o' ho' he' hlt he⟩
          · exact ⟨fun _ => by omega, fun _ => by simp [Array.getD_eq_getD_getElem?, I.size, hi]⟩
          · rw [hset j (by omega)]
            constructor
            · intro h1; rw [efflater j o' ho' he' hgt he] at h1; cases h1
            · intro h1; omega
      | true =>
        simp only [hg] at hstep
        simp only
        rw [exOp_congr hops]
        cases he : isEff C f o with
        | true =>
          have hki : k ≤ i := by
            rcases Nat.lt_or_ge i k with h1 | h1
            · have := (hkeff i o ho he).2 h1; rw [hn] at this; cases this
            · exact h1
          have hq : stH i = stH k := r.quiets i hki (by omega) fun j o' hj1 hj2 ho' => by
            cases he' : isEff C f o' with
            | false => rfl
            | true => have := (hkeff j o' ho' he').1 (effdone j o' ho' he' hj2 he); omega
          refine ⟨stH (i + 1), by rw [hhc, ← hq]; exact hstep, i + 1, by omega, rfl, fun j o' ho' he' => ?_⟩
          rcases Nat.lt_trichotomy j i with hlt | rfl | hgt
          · rw [hset j (by omega)]
            exact ⟨fun _ => by omega, fun _ => effdone j o' ho' he' hlt he⟩
          · exact ⟨fun _ => by omega, fun _ => by simp [Array.getD_eq_getD_getElem?, I.size, hi]⟩
          · rw [hset j (by omega)]
            constructor
            · intro h1; rw [efflater j o' ho' he' hgt he] at h1; cases h1
            · intro h1; omega
        | false =>
          cases hr : isRead C f o with
          | false =>
            obtain ⟨-, h2⟩ := exOp_pure he hr hstep
            exact ⟨hc, h2 hc, k, hk, hhc, hsame he⟩
          | true =>
            obtain ⟨-, h3, h2⟩ := exOp_read hr hstep
            refine ⟨hc, h2 hc ?_, k, hk, hhc, hsame he⟩
            rw [hhc]
            -- the heap tells the same here as at the text's own place
            by_cases hex : ∃ e o', ops.toList[e]? = some o' ∧ isEff C f o' = true ∧ ((i ≤ e ∧ e < k) ∨ (k ≤ e ∧ e < i))
            · rcases Nat.lt_or_ge i k with hik | hik
              · -- the last effect that is done behind it
                have hlast : ∃ e o', ops.toList[e]? = some o' ∧ isEff C f o' = true ∧ i ≤ e ∧ e < k ∧ ∀ j o'', e < j → j < k → ops.toList[j]? = some o'' → isEff C f o'' = false := by
                  obtain ⟨e0, o0, h4, h5, h6⟩ := hex
                  have h7 : i ≤ e0 ∧ e0 < k := by rcases h6 with h6 | h6 <;> omega
                  have key : ∀ d e0 o0, k - e0 = d → ops.toList[e0]? = some o0 → isEff C f o0 = true → i ≤ e0 → e0 < k →
                      ∃ e o', ops.toList[e]? = some o' ∧ isEff C f o' = true ∧ i ≤ e ∧ e < k ∧ ∀ j o'', e < j → j < k → ops.toList[j]? = some o'' → isEff C f o'' = false := by
                    intro d
                    induction d using Nat.strongRecOn with
                    | _ d ihd =>
                      intro e0 o0 hd0 h4 h5 h7 h8
                      by_cases hmore : ∃ j o'', e0 < j ∧ j < k ∧ ops.toList[j]? = some o'' ∧ isEff C f o'' = true
                      · obtain ⟨j, o'', h9, h10, h11, h12⟩ := hmore
                        exact ihd (k - j) (by omega) j o'' rfl h11 h12 (by omega) h10
                      · refine ⟨e0, o0, h4, h5, h7, h8, fun j o'' h9 h10 h11 => ?_⟩
                        cases h12 : isEff C f o'' with
                        | false => rfl
                        | true => exact absurd ⟨j, o'', h9, h10, h11, h12⟩ hmore
                  exact key _ e0 o0 rfl h4 h5 h7.1 h7.2
                obtain ⟨e, o', h4, h5, h6, h7, h8⟩ := hlast
                have hie : i < e := by
                  rcases Nat.lt_or_ge i e with h9 | h9
                  · exact h9
                  · have : e = i := by omega
                    subst this
                    rw [ho] at h4
                    cases h4
                    rw [he] at h5
                    cases h5
                have hen : e < ops.size := by omega
                have hdone : listed.getD e false = true := (hkeff e o' h4 h5).2 h7
                have h9 : ord (masks ops.toList []) i e = false := by
                  cases h10 : ord (masks ops.toList []) i e with
                  | false => rfl
                  | true => have := behind hen h10; rw [this] at hdone; cases hdone
                have h11 : ord (masks ops.toList []) e i = false := by
                  cases h10 : ord (masks ops.toList []) e i with
                  | false => rfl
                  | true => have := ord_lt r.edges (by rw [Array.length_toList]; exact hi) h10; omega
                have h12 := r.reads i e o o' ho h4 hr h5 hg h9 h11
                rw [if_pos hie] at h12
                rw [r.quiets (a := e + 1) k (by omega) hk (fun j o'' h13 h14 h15 => h8 j o'' (by omega) h14 h15)]
                exact h12
              · -- the first effect ahead of it that is not done
                have hfirst : ∃ e o', ops.toList[e]? = some o' ∧ isEff C f o' = true ∧ k ≤ e ∧ e < i ∧ ∀ j o'', k ≤ j → j < e → ops.toList[j]? = some o'' → isEff C f o'' = false := by
                  obtain ⟨e0, o0, h4, h5, h6⟩ := hex
                  have h7 : k ≤ e0 ∧ e0 < i := by rcases h6 with h6 | h6 <;> omega
                  have key : ∀ e0 o0, ops.toList[e0]? = some o0 → isEff C f o0 = true → k ≤ e0 → e0 < i →
                      ∃ e o', ops.toList[e]? = some o' ∧ isEff C f o' = true ∧ k ≤ e ∧ e < i ∧ ∀ j o'', k ≤ j → j < e → ops.toList[j]? = some o'' → isEff C f o'' = false := by
                    intro e0
                    induction e0 using Nat.strongRecOn with
                    | _ e0 ihd =>
                      intro o0 h4 h5 h7 h8
                      by_cases hmore : ∃ j o'', k ≤ j ∧ j < e0 ∧ ops.toList[j]? = some o'' ∧ isEff C f o'' = true
                      · obtain ⟨j, o'', h9, h10, h11, h12⟩ := hmore
                        exact ihd j h10 o'' h11 h12 h9 (by omega)
                      · refine ⟨e0, o0, h4, h5, h7, h8, fun j o'' h9 h10 h11 => ?_⟩
                        cases h12 : isEff C f o'' with
                        | false => rfl
                        | true => exact absurd ⟨j, o'', h9, h10, h11, h12⟩ hmore
                  exact key e0 o0 h4 h5 h7.1 h7.2
                obtain ⟨e, o', h4, h5, h6, h7, h8⟩ := hfirst
                have hen : e < ops.size := by omega
                have hnot : listed.getD e false = false := by
                  cases h9 : listed.getD e false with
                  | false => rfl
                  | true => have := (hkeff e o' h4 h5).1 h9; omega
                have h9 : ord (masks ops.toList []) e i = false := by
                  cases h10 : ord (masks ops.toList []) e i with
                  | false => rfl
                  | true => have := ahead h10; rw [this] at hnot; cases hnot
                have h11 : ord (masks ops.toList []) i e = false := by
                  cases h10 : ord (masks ops.toList []) i e with
                  | false => rfl
                  | true => have := ord_lt r.edges (by rw [Array.length_toList]; exact hen) h10; omega
                have h12 := r.reads i e o o' ho h4 hr h5 hg h11 h9
                rw [if_neg (by omega)] at h12
                rw [← r.quiets (a := k) e (by omega) (by omega) (fun j o'' h13 h14 h15 => h8 j o'' h13 h14 h15)]
                exact h12
            · have hno : ∀ (j : Nat) (o' : Oper), ((i ≤ j ∧ j < k) ∨ (k ≤ j ∧ j < i)) → ops.toList[j]? = some o' → isEff C f o' = false := fun j o' hj ho' => by
                cases h12 : isEff C f o' with
                | false => rfl
                | true => exact absurd ⟨j, o', ho', h12, hj⟩ hex
              rcases Nat.lt_or_ge i k with hik | hik
              · rw [r.quiets (a := i) k (by omega) hk (fun j o' h1 h2 h3 => hno j o' (.inl ⟨h1, h2⟩) h3)]; exact h3
              · rw [← r.quiets (a := k) i (by omega) (by omega) (fun j o' h1 h2 h3 => hno j o' (.inr ⟨h1, h2⟩) h3)]; exact h3
  obtain ⟨hc', hs, hheap⟩ := hval
  refine ⟨hc', hs, ⟨by simp [I.size], ?_, hheap, ?_⟩⟩
  · -- the slots
    apply List.ext_getElem?
    intro t
    rw [putAll_get]
    unfold doneL
    rw [List.filter_filter]
    have hnew : ∀ j, j < ops.size → (listed.setIfInBounds i true).getD j false = (listed.getD j false || j == i) := by
      intro j hj
      by_cases hji : j = i
      · subst hji
        simp [Array.getD_eq_getD_getElem?, I.size, hi]
      · rw [getD_set_ne false (fun e => hji e.symm)]
        have hb : (j == i) = false := beq_eq_false_iff_ne.2 hji
        rw [hb, Bool.or_false]
    by_cases hd : o.dst = some t
    · have hwi : writes ops.toList t i = true := by unfold writes; rw [ho]; simp [hd]
      rw [last_upto hi (p := fun a => writes ops.toList t a && (listed.setIfInBounds i true).getD a false) (by rw [hwi, hnew i hi]; simp) (fun j hj hjn => ?_)]
      · simp only [putT, hd, List.getElem?_set]
        rw [I.slots, putAll_length]
        simp
      · rw [hnew j hjn]
        cases hw : writes ops.toList t j with
        | false => simp
        | true =>
          obtain ⟨o', ho', hd'⟩ := writes_get hw
          rcases r.pairs i j o o' hj ho ho' with h1 | ⟨-, h1⟩
          · rw [behind hjn h1]; simp; omega
          · exact absurd hd' (apart_left h1 hd).2
    · have hwi : writes ops.toList t i = false := by unfold writes; rw [ho]; simpa using hd
      have heq : (List.range ops.size).filter (fun a => writes ops.toList t a && (listed.setIfInBounds i true).getD a false) = (List.range ops.size).filter (fun a => writes ops.toList t a && listed.getD a false) := by
        refine List.filter_congr fun j hj => ?_
        rw [hnew j (List.mem_range.1 hj)]
        by_cases hji : j = i
        · subst hji; simp [hwi]
        · have hb : (j == i) = false := beq_eq_false_iff_ne.2 hji
          rw [hb, Bool.or_false]
      rw [heq]
      have := putAll_get ops.toList val t (doneL ops.size listed) tm
      unfold doneL at this
      rw [List.filter_filter] at this
      rw [← this]
      have h1 : (putT tmc o.dst (val i))[t]? = tmc[t]? := by
        cases hod : o.dst with
        | none => rfl
        | some d =>
          simp only [putT, List.getElem?_set]
          rw [if_neg (fun e => hd (by rw [hod, e]))]
      rw [h1, I.slots]
      rfl
  · intro j o' hj ho' e he hb
    by_cases hji : j = i
    · subst hji
      rw [ho] at ho'
      cases ho'
      exact getD_set_true (hready e he hb)
    · rw [getD_set_ne false (fun e => hji e.symm)] at hj
      exact getD_set_true (I.closed j o' hj ho' e he hb)
end
end
end Go.Ax

/- Regions, code and functions of the model do what the abstract runs say. -/
namespace Go.Ax
open Go Go.RowKit
section
variable {P : Program} {T : Tab} {B : Nat} {w0 : World}
variable {C : Cfg} {call : CallF} {mode : Bool} {f : FuncId}

theorem getElem?_zipIdx {l : List Oper} {i : Nat} {o : Oper} (h : l[i]? = some o) : (o, i) ∈ l.zipIdx := by
  rw [List.mem_zipIdx_iff_getElem?]
  simpa using h

theorem exRead_heapless {ρ : Operand → AV} {o : Oper} (hz : heapless C o = true) (h h' : Heap) : exRead C.T ρ o h = exRead C.T ρ o h' := by
  unfold heapless at hz
  unfold exRead
  split at hz
  · rename_i s t x ho
    rw [ho]
    simp only
    split at hz
    · rename_i k1 k2 h1 h2
      rw [h1, h2]
      cases ρ x <;> rfl
    · cases hz
  · cases hz

/-- A region that passes its checks has been run as is asked. -/
theorem ran_of {ops : Array Oper} {tm tm' : List AV} {h h' : Heap} (hr : exRegion C call mode f ops true tm h = some (tm', h')) :
    ∃ stT stH val, Ran C call mode f ops tm h stT stH val ∧ stT ops.size = tm' ∧ stH ops.size = h' := by
  unfold exRegion at hr
  simp only [if_true] at hr
  by_cases hd : drawOk C f ops.toList (masks ops.toList []) ops = true
  case neg => rw [if_neg hd] at hr; cases hr
  rw [if_pos hd] at hr
  cases ht : traceOps C call mode f ops ops.toList tm h with
  | none => simp [ht] at hr
  | some x =>
    obtain ⟨tr, tm1, h1⟩ := x
    simp only [ht] at hr
    by_cases hrd : readsOk C ops ops.toList tr h1 (pairsOf C f ops.toList (masks ops.toList [])) = true
    case neg => rw [if_neg hrd] at hr; cases hr
    rw [if_pos hrd] at hr
    simp only [Option.some.injEq, Prod.mk.injEq] at hr
    obtain ⟨rfl, rfl⟩ := hr
    obtain ⟨hlen, hsp⟩ := trace_spec ht
    have hn : tr.length = ops.size := by rw [hlen, Array.length_toList]
    have hat : ∀ i, i < ops.size → ∃ x, tr[i]? = some x := fun i hi => ⟨tr[i], List.getElem?_eq_getElem (by omega)⟩
    have hend : ∀ i, ops.size ≤ i → tr[i]? = none := fun i hi => List.getElem?_eq_none (by omega)
    -- the states
    refine ⟨fun i => match tr[i]? with | some (t, _, _) => t | none => tm1, fun i => match tr[i]? with | some (_, hp, _) => hp | none => h1,
      fun i => match tr[i]? with | some (_, _, v) => v | none => .undef, ?_, by simp [hend ops.size (Nat.le_refl _)], by simp [hend ops.size (Nat.le_refl _)]⟩
    have hstep : ∀ (i : Nat) (o : Oper), ops.toList[i]? = some o → ∃ t hp v h2, tr[i]? = some (t, hp, v) ∧ stepA C call mode f ops o t hp = some (v, h2) ∧
        (match tr[i + 1]? with | some (t, _, _) => t | none => tm1) = putT t o.dst v ∧ (match tr[i + 1]? with | some (_, hp, _) => hp | none => h1) = h2 := by
      intro i o ho
      have hi : i < ops.toList.length := (List.getElem?_eq_some_iff.1 ho).1
      obtain ⟨o', t, hp, v, h2, e1, e2, e3, -, e4, e5⟩ := hsp i hi
      rw [ho] at e1
      cases e1
      refine ⟨t, hp, v, h2, e2, e3, ?_⟩
      rw [Array.length_toList] at hi
      by_cases hl : i + 1 < ops.size
      · obtain ⟨⟨t2, hp2, v2⟩, hx⟩ := hat (i + 1) hl
        rw [hx]
        exact e4 _ _ _ hx
      · rw [hend (i + 1) (by omega)]
        exact e5 (by rw [Array.length_toList]; omega)
    refine ⟨fun i o ho => ?_, fun i hi => ?_, ?_, fun j o ho e he hb => ?_, fun i j o' o hij ho' ho => ?_, fun i e o o' ho ho' hr he hg h3 h4 => ?_⟩
    · obtain ⟨t, hp, v, h2, e1, e2, e3, e4⟩ := hstep i o ho
      simp only [e1, e4]
      exact e2
    · induction i with
      | zero =>
        simp only [List.range_zero, putAll, List.foldl_nil]
        rcases Nat.eq_zero_or_pos ops.size with h0 | h0
        · rw [hend 0 (by omega)]
          have : ops.toList = [] := List.eq_nil_of_length_eq_zero (by rw [Array.length_toList]; exact h0)
          rw [this] at ht
          simp only [traceOps, Option.some.injEq, Prod.mk.injEq] at ht
          exact ht.2.1.symm
        · obtain ⟨o', t, hp, v, h2, e1, e2, e3, e4, -, -⟩ := hsp 0 (by rw [Array.length_toList]; exact h0)
          rw [e2]
          exact (e4 rfl).1
      | succ i ih =>
        have ho : ops.toList[i]? = some ops.toList[i] := List.getElem?_eq_getElem (by rw [Array.length_toList]; omega)
        obtain ⟨t, hp, v, h2, e1, e2, e3, e4⟩ := hstep i _ ho
        have ih' := ih (by omega)
        simp only [e1] at ih'
        rw [e3, List.range_succ]
        unfold putAll at ih' ⊢
        rw [List.foldl_append, ← ih']
        simp only [List.foldl_cons, List.foldl_nil, ho, e1]
    · rcases Nat.eq_zero_or_pos ops.size with h0 | h0
      · rw [hend 0 (by omega)]
        have : ops.toList = [] := List.eq_nil_of_length_eq_zero (by rw [Array.length_toList]; exact h0)
        rw [this] at ht
        simp only [traceOps, Option.some.injEq, Prod.mk.injEq] at ht
        exact ht.2.2.symm
      · obtain ⟨o', t, hp, v, h2, e1, e2, e3, e4, -, -⟩ := hsp 0 (by rw [Array.length_toList]; exact h0)
        rw [e2]
        exact (e4 rfl).2
    · unfold drawOk at hd
      have := List.all_eq_true.1 hd _ (getElem?_zipIdx ho)
      rw [Bool.and_eq_true] at this
      have h5 := List.all_eq_true.1 this.1 e he
      simp only [hb, Bool.not_true, Bool.false_or, decide_eq_true_eq] at h5
      exact h5
    · unfold drawOk at hd
      have := List.all_eq_true.1 hd _ (getElem?_zipIdx ho)
      rw [Bool.and_eq_true] at this
      have h5 := List.all_eq_true.1 this.2 _ (getElem?_zipIdx ho')
      simp only [hij, decide_true, Bool.not_true, Bool.false_or, Bool.or_eq_true, Bool.and_eq_true, Bool.not_eq_true', Bool.and_eq_false_iff] at h5
      rcases h5 with h5 | ⟨h5, h6⟩
      · exact .inl h5
      · refine .inr ⟨?_, h6⟩
        rintro ⟨h7, h8⟩
        rcases h5 with h5 | h5
        · rw [h7] at h5; cases h5
        · rw [h8] at h5; cases h5
    · obtain ⟨t, hp, v, h2, e1, -, -, -⟩ := hstep i o ho
      simp only [e1] at hg
      simp only [e1]
      by_cases hz : heapless C o = true
      case pos =>
        obtain ⟨t', hp', v', h2', f1, f2, -, -⟩ := hstep i o ho
        rw [e1] at f1
        cases f1
        unfold stepA at f2
        rw [hg] at f2
        simp only at f2
        obtain ⟨hf1, hf2⟩ := kind_read hr
        unfold exOp at f2
        rw [hf1] at f2
        unfold exBase at f2
        rw [hf2] at f2
        simp only at f2
        cases hex : exRead C.T (evalA t) o hp with
        | none => simp [hex] at f2
        | some v2 =>
          simp only [hex, Bool.false_eq_true, if_false, Option.some.injEq, Prod.mk.injEq] at f2
          rw [← f2.1, ← hex]
          exact exRead_heapless hz _ _
      have hil : i < ops.size := by have := (List.getElem?_eq_some_iff.1 ho).1; rwa [Array.length_toList] at this
      have hel : e < ops.size := by have := (List.getElem?_eq_some_iff.1 ho').1; rwa [Array.length_toList] at this
      have hmem : (i, e) ∈ pairsOf C f ops.toList (masks ops.toList []) := by
        unfold pairsOf
        refine List.mem_flatMap.2 ⟨i, List.mem_range.2 (by rw [Array.length_toList]; exact hil), List.mem_filterMap.2 ⟨e, List.mem_range.2 (by rw [Array.length_toList]; exact hel), ?_⟩⟩
        rw [ho, ho']
        simp [hr, he, h3, h4, hz]
      have hreads : ∀ (ps : List (Nat × Nat)), readsOk C ops ops.toList tr h1 ps = true → ∀ x ∈ ps, readOk C ops ops.toList tr h1 x = true := by
        intro ps
        induction ps with
        | nil => intro _ x hx; cases hx
        | cons y ps ih =>
          intro hps x hx
          simp only [readsOk, Bool.and_eq_true] at hps
          rcases List.mem_cons.1 hx with rfl | hx
          · exact hps.1
          · exact ih hps.2 x hx
      have h5 := hreads _ hrd _ hmem
      unfold readOk at h5
      simp only [ho, e1, hg, offA, Bool.false_or] at h5
      by_cases hie : i < e
      · simp only [hie, if_true] at h5 ⊢
        by_cases hl : e + 1 < ops.size
        · obtain ⟨⟨t2, hp2, v2⟩, hx⟩ := hat (e + 1) hl
          simp only [hx] at h5 ⊢
          unfold rdSame at h5
          cases hex : exRead C.T (evalA t) o hp2 with
          | none => simp [hex] at h5
          | some v' => simp only [hex] at h5; rw [AV.same_eq h5]
        · simp only [hend (e + 1) (by omega)] at h5 ⊢
          unfold rdSame at h5
          cases hex : exRead C.T (evalA t) o h1 with
          | none => simp [hex] at h5
          | some v' => simp only [hex] at h5; rw [AV.same_eq h5]
      · simp only [hie, if_false] at h5 ⊢
        obtain ⟨⟨t2, hp2, v2⟩, hx⟩ := hat e hel
        simp only [hx, Option.map_some] at h5 ⊢
        unfold rdSame at h5
        cases hex : exRead C.T (evalA t) o hp2 with
        | none => simp [hex] at h5
        | some v' => simp only [hex] at h5; rw [AV.same_eq h5]

theorem getD_replicate (n j : Nat) : (Array.replicate n false).getD j false = false := by
  rw [Array.getD_eq_getD_getElem?, Array.getElem?_replicate]
  split <;> rfl

variable (F : Fits P T) (hC : C.T = T) (hcall : CallOk P T call)
include F hC hcall

theorem wpAny_sound' {ops : Array Oper} {Q : Exit → Act → World → Prop} {tm : List AV} {h : Heap} {stT : Nat → List AV} {stH : Nat → Heap} {val : Nat → AV}
    (r : Ran C call mode f ops tm h stT stH val) : ∀ (fuel : Nat) (listed : Array Bool) (J : Inj) (a : Act) (w : World) (tmc : List AV) (hc : Heap),
    ((List.range ops.size).filter fun j => !listed.getD j false).length ≤ fuel → Inv C f ops tm stH val listed tmc hc → Rel T B w0 J hc w → VRL T J tmc a.tmps.toList →
    (∀ J' a' w', J.Le J' → VRL T J' (stT ops.size) a'.tmps.toList → a'.defers = a.defers → Rel T B w0 J' (stH ops.size) w' → Q .normal a' w') → wpAny P .any ops Q fuel listed a w := by
  -- where nothing is ready all is done
  have hfin : ∀ {listed : Array Bool} {J : Inj} {a : Act} {w : World} {tmc hc}, Region.ready .any ops listed = [] → Inv C f ops tm stH val listed tmc hc → Rel T B w0 J hc w → VRL T J tmc a.tmps.toList →
      (∀ J' a' w', J.Le J' → VRL T J' (stT ops.size) a'.tmps.toList → a'.defers = a.defers → Rel T B w0 J' (stH ops.size) w' → Q .normal a' w') → Q .normal a w := by
    intro listed J a w tmc hc hready I R hv hQ
    have hall : ∀ j, j < ops.size → listed.getD j false = true := by
      intro j
      induction j using Nat.strongRecOn with
      | _ j ih =>
        intro hj
        cases hl : listed.getD j false with
        | true => rfl
        | false =>
          exfalso
          have hmem : j ∈ Region.ready .any ops listed := by
            unfold Region.ready
            rw [List.mem_filter]
            refine ⟨List.mem_range.2 hj, ?_⟩
            have hl' : listed.getD j true = false := by
              rw [Array.getD_eq_getD_getElem?] at hl ⊢
              rw [Array.getElem?_eq_getElem (by rw [I.size]; exact hj)] at hl ⊢
              exact hl
            have ho : ops[j]? = some ops[j] := Array.getElem?_eq_getElem hj
            simp only [hl', Bool.not_false, Bool.true_and, ho, Option.map_some, Option.getD_some]
            rw [Array.all_eq_true_iff_forall_mem]
            intro e he
            cases hb : Region.binds .any e with
            | false => rfl
            | true =>
              have hlt := r.edges j ops[j] (by rw [Array.getElem?_toList]; exact ho) e (by simpa using he) hb
              simp only [Bool.not_true, Bool.false_or]
              exact ih e.on hlt (by omega)
          rw [hready] at hmem
          cases hmem
    have htm : tmc = stT ops.size := by
      rw [I.slots, r.slots ops.size (Nat.le_refl _)]
      congr 1
      unfold doneL
      rw [List.filter_eq_self]
      intro j hj
      exact hall j (List.mem_range.1 hj)
    obtain ⟨k, hk, hhc, hkeff⟩ := I.heap
    have hh : hc = stH ops.size := by
      rw [hhc, r.quiets (a := k) ops.size hk (Nat.le_refl _)]
      intro j o hj1 hj2 ho
      cases he : isEff C f o with
      | false => rfl
      | true => have := (hkeff j o ho he).1 (hall j hj2); omega
    exact hQ J a w (Inj.Le.refl _) (by rw [← htm]; exact hv) rfl (by rw [← hh]; exact R)
  intro fuel
  induction fuel with
  | zero =>
    intro listed J a w tmc hc hcount I R hv hQ
    have hnone : Region.ready .any ops listed = [] := by
      rw [List.eq_nil_iff_forall_not_mem]
      intro j hj
      have h1 := (List.mem_filter.1 hj)
      have h2 : ((List.range ops.size).filter fun j => !listed.getD j false) = [] := List.eq_nil_of_length_eq_zero (by omega)
      rw [List.filter_eq_nil_iff] at h2
      have h3 := h2 j h1.1
      have hjn := List.mem_range.1 h1.1
      have h4 := h1.2
      rw [Bool.and_eq_true] at h4
      have h5 := h4.1
      rw [Array.getD_eq_getD_getElem?, Array.getElem?_eq_getElem (by rw [I.size]; exact hjn)] at h5 h3
      simp at h5 h3
      rw [h3] at h5
      cases h5
    exact ⟨hnone, hfin hnone I R hv hQ⟩
  | succ fuel ih =>
    intro listed J a w tmc hc hcount I R hv hQ
    refine ⟨fun hready => hfin hready I R hv hQ, fun i hi => ?_⟩
    have h1 := List.mem_filter.1 hi
    have hin := List.mem_range.1 h1.1
    have ho : ops[i]? = some ops[i] := Array.getElem?_eq_getElem hin
    have ho' : ops.toList[i]? = some ops[i] := by rw [Array.getElem?_toList]; exact ho
    have h2 := h1.2
    simp only [ho, Option.map_some, Option.getD_some, Bool.and_eq_true] at h2
    have hn : listed.getD i false = false := by
      have h5 := h2.1
      rw [Array.getD_eq_getD_getElem?, Array.getElem?_eq_getElem (by rw [I.size]; exact hin)] at h5 ⊢
      simpa using h5
    have hready : ∀ e ∈ (ops[i]).after.toList, Region.binds .any e = true → listed.getD e.on false = true := by
      intro e he hb
      have := (Array.all_eq_true_iff_forall_mem.1 h2.2) e (by simpa using he)
      simpa [hb] using this
    obtain ⟨hc', hs, I'⟩ := I.step r ho' hn hready
    refine step_wp F hC hcall ho hs R hv _ fun J' x w' hle hvx R' => ?_
    refine ih (listed.setIfInBounds i true) J' _ w' _ hc' ?_ I' R' (put_vrl (hv.le hle) hvx _) fun J'' a' w'' hle' hv'' hd R'' => hQ J'' a' w'' (hle.trans hle') hv'' (by rw [hd, put_defers]) R''
    -- one fewer is left
    have hlt : ((List.range ops.size).filter fun j => !(listed.setIfInBounds i true).getD j false).length < ((List.range ops.size).filter fun j => !listed.getD j false).length := by
      have hsub : ((List.range ops.size).filter fun j => !(listed.setIfInBounds i true).getD j false) = ((List.range ops.size).filter fun j => !listed.getD j false).filter fun j => j != i := by
        rw [List.filter_filter]
        refine List.filter_congr fun j hj => ?_
        by_cases hji : j = i
        · subst hji
          have : (listed.setIfInBounds j true).getD j false = true := by simp [Array.getD_eq_getD_getElem?, I.size, hin]
          rw [this]; simp
        · rw [getD_set_ne false (fun e => hji e.symm)]
          have hb : (j != i) = true := by simpa using hji
          rw [hb, Bool.true_and]
      rw [hsub]
      refine List.length_filter_lt_length_iff_exists.2 ⟨i, List.mem_filter.2 ⟨h1.1, by rw [hn]; rfl⟩, by simp⟩
    omega

theorem exRegion_sound (hm : P.follows .mixedOrders = true) {ops : Array Oper} {draw : Bool} {id : Nat} {Q : Exit → Act → World → Prop} {tm tm' : List AV} {h h' : Heap} {J : Inj} {a : Act} {w : World}
    (hr : exRegion C call mode f ops draw tm h = some (tm', h')) (R : Rel T B w0 J h w) (hv : VRL T J tm a.tmps.toList)
    (hQ : ∀ J' a' w', J.Le J' → VRL T J' tm' a'.tmps.toList → a'.defers = a.defers → Rel T B w0 J' h' w' → Q .normal a' w') : (Code.region id ops draw).wp P Q a w := by
  cases draw with
  | false =>
    unfold exRegion at hr
    simp only [Bool.false_eq_true, if_false] at hr
    refine wp_region ?_
    rw [List.range_eq_range', ← Array.length_toList]
    exact runOps_sound F hC hcall ops.toList 0 (fun j => by simp) hr R hv hQ
  | true =>
    obtain ⟨stT, stH, val, r, rfl, rfl⟩ := ran_of hr
    refine wp_region_any hm ?_
    refine wpAny_sound' F hC hcall r ops.size _ J a _ tm h ?_ ?_ R.drew hv hQ
    · exact Nat.le_trans (List.length_filter_le _ _) (by simp)
    · refine ⟨by simp, ?_, ⟨0, Nat.zero_le _, r.start.symm, fun i o ho he => ?_⟩, fun j o hj ho => ?_⟩
      · have : doneL ops.size (Array.replicate ops.size false) = [] := by
          unfold doneL
          rw [List.filter_eq_nil_iff]
          intro j hj
          rw [getD_replicate]
          simp
        rw [this]
        rfl
      · rw [getD_replicate]; simp
      · rw [getD_replicate] at hj; cases hj
end

section
variable {P : Program} {T : Tab} {B : Nat} {w0 : World}

def Ex.out : Ex → Exit
  | .normal => .normal
  | .exit id => .exit id
  | .ret => .ret

/-- What an abstract run of code owes. -/
def Post (T : Tab) (B : Nat) (w0 : World) (J : Inj) (a : Act) (ex : Ex) (tm' : List AV) (h' : Heap) (e : Exit) (a' : Act) (w' : World) : Prop :=
  ∃ J', J.Le J' ∧ e = ex.out ∧ VRL T J' tm' a'.tmps.toList ∧ a'.defers = a.defers ∧ Rel T B w0 J' h' w'

theorem Post.after {J J1 : Inj} {a a1 : Act} {ex : Ex} {tm' h' e a' w'} (hle : J.Le J1) (hd : a1.defers = a.defers) (h : Post T B w0 J1 a1 ex tm' h' e a' w') : Post T B w0 J a ex tm' h' e a' w' := by
  obtain ⟨J', h1, h2, h3, h4, h5⟩ := h
  exact ⟨J', hle.trans h1, h2, h3, h4.trans hd, h5⟩

/-- Code of the model against its abstract run. -/
def CodeOk (P : Program) (T : Tab) (B : Nat) (w0 : World) (run : List AV → Heap → Option (Ex × List AV × Heap)) (c : Code) : Prop :=
  ∀ tm h ex tm' h', run tm h = some (ex, tm', h') → ∀ (J : Inj) (a : Act) (w : World), Rel T B w0 J h w → VRL T J tm a.tmps.toList → c.wp P (Post T B w0 J a ex tm' h') a w

theorem loopA_sound {body : List AV → Heap → Option (Ex × List AV × Heap)} {c : Code} (hb : CodeOk P T B w0 body c) : ∀ (n : Nat), CodeOk P T B w0 (loopA body n) (.loop c) := by
  intro n tm h ex tm' h' hl J a w R hv
  refine wp_loop_rounds n ?_
  -- from any state on
  have key : ∀ (n : Nat) {tm h} {J1 : Inj} {a1 : Act} {w1 : World}, loopA body n tm h = some (ex, tm', h') → J.Le J1 → a1.defers = a.defers → Rel T B w0 J1 h w1 → VRL T J1 tm a1.tmps.toList →
      Code.rounds P c (Post T B w0 J a ex tm' h') n a1 w1 := by
    intro n
    induction n with
    | zero => intro tm h J1 a1 w1 hl; simp [loopA] at hl
    | succ n ih =>
      intro tm h J1 a1 w1 hl hle hd R hv
      rw [rounds_succ]
      simp only [loopA] at hl
      cases hr : body tm h with
      | none => simp [hr] at hl
      | some x =>
        obtain ⟨ex1, tm1, h1⟩ := x
        refine wp_mono (hb _ _ _ _ _ hr _ _ _ R hv) fun e a' w' hp => ?_
        obtain ⟨J', h2, h3, h4, h5, h6⟩ := hp
        subst h3
        cases ex1 with
        | normal =>
          simp only [hr] at hl
          exact ih hl (hle.trans h2) (h5.trans hd) h6 h4
        | exit id =>
          simp only [hr, Option.some.injEq, Prod.mk.injEq] at hl
          obtain ⟨rfl, rfl, rfl⟩ := hl
          exact ⟨J', hle.trans h2, rfl, h4, h5.trans hd, h6⟩
        | ret =>
          simp only [hr, Option.some.injEq, Prod.mk.injEq] at hl
          obtain ⟨rfl, rfl, rfl⟩ := hl
          exact ⟨J', hle.trans h2, rfl, h4, h5.trans hd, h6⟩
  exact key n hl (Inj.Le.refl _) rfl R hv

theorem clrFrom_vrl {J : Inj} (l : List Nat) : ∀ (i : Nat) {tm : List AV} {xs : List Value}, VRL T J tm xs → VRL T J (clrFrom l i tm) xs
  | _, [], _, h => by cases h; exact .nil
  | i, v :: tm, _, h => by
    cases h with
    | cons a b =>
      refine .cons ?_ (clrFrom_vrl l (i + 1) b)
      split
      · exact a
      · exact .undef

theorem clr_vrl {J : Inj} (l : Option (List Nat)) {tm : List AV} {xs : List Value} (h : VRL T J tm xs) : VRL T J (clr l tm) xs := by
  cases l with
  | none => exact h
  | some l => exact clrFrom_vrl l 0 h

theorem exCode_sound (F : Fits P T) (hm : P.follows .mixedOrders = true) {C : Cfg} (hC : C.T = T) {call : CallF} (hcall : CallOk P T call) {mode : Bool} {f : FuncId} (n : Nat) :
    ∀ (c : Code), CodeOk P T B w0 (exCode C call mode f n c) c
  | .skip => fun tm h ex tm' h' hr J a w R hv => by
    simp only [exCode, Option.some.injEq, Prod.mk.injEq] at hr
    obtain ⟨rfl, rfl, rfl⟩ := hr
    exact wp_skip ⟨J, Inj.Le.refl _, rfl, hv, rfl, R⟩
  | .label _ => fun tm h ex tm' h' hr J a w R hv => by
    simp only [exCode, Option.some.injEq, Prod.mk.injEq] at hr
    obtain ⟨rfl, rfl, rfl⟩ := hr
    exact wp_label ⟨J, Inj.Le.refl _, rfl, hv, rfl, R⟩
  | .ret => fun tm h ex tm' h' hr J a w R hv => by
    simp only [exCode, Option.some.injEq, Prod.mk.injEq] at hr
    obtain ⟨rfl, rfl, rfl⟩ := hr
    exact wp_ret ⟨J, Inj.Le.refl _, rfl, hv, rfl, R⟩
  | .exit id => fun tm h ex tm' h' hr J a w R hv => by
    simp only [exCode, Option.some.injEq, Prod.mk.injEq] at hr
    obtain ⟨rfl, rfl, rfl⟩ := hr
    exact wp_exit ⟨J, Inj.Le.refl _, rfl, hv, rfl, R⟩
  | .region id ops draw => fun tm h ex tm' h' hr J a w R hv => by
    simp only [exCode] at hr
    cases hx : exRegion C call mode f ops draw tm h with
    | none => simp [hx] at hr
    | some x =>
      obtain ⟨tm1, h1⟩ := x
      simp only [hx, Option.some.injEq, Prod.mk.injEq] at hr
      obtain ⟨rfl, rfl, rfl⟩ := hr
      exact exRegion_sound F hC hcall hm hx R hv fun J' a' w' h2 h3 h4 h5 => ⟨J', h2, rfl, clr_vrl _ h3, h4, h5⟩
  | .seq x y => fun tm h ex tm' h' hr J a w R hv => by
    simp only [exCode] at hr
    cases hx : exCode C call mode f n x tm h with
    | none => simp [hx] at hr
    | some r =>
      obtain ⟨ex1, tm1, h1⟩ := r
      refine wp_seq (wp_mono (exCode_sound F hm hC hcall n x _ _ _ _ _ hx _ _ _ R hv) fun e a' w' hp => ?_)
      obtain ⟨J', h2, h3, h4, h5, h6⟩ := hp
      subst h3
      cases ex1 with
      | normal =>
        simp only [hx] at hr
        exact wp_mono (exCode_sound F hm hC hcall n y _ _ _ _ _ hr _ _ _ h6 h4) fun e a'' w'' hp => hp.after h2 h5
      | exit id =>
        simp only [hx, Option.some.injEq, Prod.mk.injEq] at hr
        obtain ⟨rfl, rfl, rfl⟩ := hr
        exact ⟨J', h2, rfl, h4, h5, h6⟩
      | ret =>
        simp only [hx, Option.some.injEq, Prod.mk.injEq] at hr
        obtain ⟨rfl, rfl, rfl⟩ := hr
        exact ⟨J', h2, rfl, h4, h5, h6⟩
  | .cond c x y => fun tm h ex tm' h' hr J a w R hv => by
    simp only [exCode] at hr
    have hc := evalA_VR hv c
    split at hr
    · rename_i hcc
      rw [hcc] at hc
      exact wp_cond_true hc.bool_inv (exCode_sound F hm hC hcall n x _ _ _ _ _ hr _ _ _ R hv)
    · rename_i hcc
      rw [hcc] at hc
      exact wp_cond_false hc.bool_inv (exCode_sound F hm hC hcall n y _ _ _ _ _ hr _ _ _ R hv)
    · cases hr
  | .block id c => fun tm h ex tm' h' hr J a w R hv => by
    simp only [exCode] at hr
    cases hx : exCode C call mode f n c tm h with
    | none => simp [hx] at hr
    | some r =>
      obtain ⟨ex1, tm1, h1⟩ := r
      refine wp_block (wp_mono (exCode_sound F hm hC hcall n c _ _ _ _ _ hx _ _ _ R hv) fun e a' w' hp => ?_)
      obtain ⟨J', h2, h3, h4, h5, h6⟩ := hp
      subst h3
      cases ex1 with
      | normal =>
        simp only [hx, Option.some.injEq, Prod.mk.injEq] at hr
        obtain ⟨rfl, rfl, rfl⟩ := hr
        exact ⟨J', h2, rfl, h4, h5, h6⟩
      | exit id' =>
        simp only [hx] at hr
        by_cases hid : id' = id
        · simp only [hid, if_true, Option.some.injEq, Prod.mk.injEq] at hr
          obtain ⟨rfl, rfl, rfl⟩ := hr
          simp only [Ex.out, Exit.inBlock, hid, if_true]
          exact ⟨J', h2, rfl, h4, h5, h6⟩
        · simp only [hid, if_false, Option.some.injEq, Prod.mk.injEq] at hr
          obtain ⟨rfl, rfl, rfl⟩ := hr
          simp only [Ex.out, Exit.inBlock, hid, if_false]
          exact ⟨J', h2, rfl, h4, h5, h6⟩
      | ret =>
        simp only [hx, Option.some.injEq, Prod.mk.injEq] at hr
        obtain ⟨rfl, rfl, rfl⟩ := hr
        exact ⟨J', h2, rfl, h4, h5, h6⟩
  | .loop c => fun tm h ex tm' h' hr J a w R hv => by
    simp only [exCode] at hr
    exact loopA_sound (exCode_sound F hm hC hcall n c) n _ _ _ _ _ hr _ _ _ R hv
  | .rangeFunc .. => fun _ _ _ _ _ hr => by simp [exCode] at hr
  | .scope _ => fun _ _ _ _ _ hr => by simp [exCode] at hr
  | .goto _ => fun _ _ _ _ _ hr => by simp [exCode] at hr
  | .refuse _ => fun _ _ _ _ _ hr => by simp [exCode] at hr

/-- The functions that are run by their bodies are the program's own. -/
structure CntOk (P : Program) (C : Cfg) : Prop where
  fn : ∀ g, C.cnt g = true → ∃ fn : Func, P.funcs[g]? = some fn ∧ (fn.name == "runtime.NumGoroutine") = false ∧ fn.body = none ∧ Extern.findNext fn = none ∧ Extern.find fn = some Extern.BytealgCount.count

theorem bytesOf_lib (ns : List Int) : (ns.map fun n => UInt8.ofNat n.toNat) = Lib.bytesOf ns := rfl

theorem count_sound {J : Inj} {w : World} {h : Heap} (F : Fits P T) (R : Rel T B w0 J h w) {args : List AV} {xs : List Value} {v : AV} {h' : Heap} (hv : aCount args h = some (v, h')) (hx : VRL T J args xs) :
    ∃ r, (Extern.BytealgCount.count xs.toArray).run P w = .ok r w ∧ VR T J v r ∧ h' = h := by
  unfold aCount at hv
  split at hv
  case h_2 => cases hv
  rename_i x n
  cases hx with
  | cons hx0 hx1 =>
    cases hx1 with
    | cons hx1 hx2 =>
      cases hx2
      obtain rfl := hx1.int_inv
      cases hsl : (slElems h x).bind bytesOf with
      | none => simp [hsl] at hv
      | some bs =>
        simp only [hsl, Option.some.injEq, Prod.mk.injEq] at hv
        obtain ⟨rfl, rfl⟩ := hv
        simp only [Option.bind_eq_some_iff] at hsl
        obtain ⟨l, hl, hb⟩ := hsl
        refine ⟨_, ?_, .cell (.int _ _), rfl⟩
        rcases slElems_sound F R hl hx0 with ⟨rfl, ad, rfl⟩ | ⟨e', b, o, cs, cap, h1, h2, rfl, -⟩
        · simp only [bytesOf, Option.some.injEq] at hb
          subst hb
          cases ad <;> rfl
        · obtain ⟨ns, rfl, rfl⟩ := bytesOf_fl F hb h1
          have hlen : ns.length = l.length := by
            have := bytesOf_len hb
            simpa using this
          have := Lib.run_countAt (P := P) w ⟨b, o, none⟩ l.length cap ns hlen (fun i hi => by
            rw [Addr.add_mid]
            refine h2 i _ ?_
            rw [List.getElem?_map, List.getD_eq_getElem?_getD, List.getElem?_eq_getElem (by omega)]
            rfl) n
          exact this

structure FunsOk (P : Program) (E : Funs) : Prop where
  fn : ∀ g x, E g = some x → ∃ fn : Func, P.funcs[g]? = some fn ∧ fn.body = some x.body ∧ fn.ntmps = x.ntmps ∧ fn.results = (x.results.map ResultVar.tmp).toArray ∧ (fn.name == "runtime.NumGoroutine") = false

theorem run_mapM_tmps (g : ResultVar → Sem Value) (tmps : Array Value) (hg : ∀ t, g (.tmp t) = pure (tmps.getD t undef)) (rs : List Nat) (w : World) :
    ((rs.map ResultVar.tmp).toArray.mapM g).run P w = .ok (rs.map fun t => tmps.getD t undef).toArray w := by
  rw [List.mapM_toArray, Sem.run_map]
  have : ∀ rs : List Nat, ((rs.map ResultVar.tmp).mapM g).run P w = .ok (rs.map fun t => tmps.getD t undef) w := by
    intro rs
    induction rs with
    | nil => rfl
    | cons t rs ih =>
      rw [List.map_cons, List.mapM_cons, hg, Sem.run_bind]
      simp only [Sem.run_pure, Result.andThen_ok, Sem.run_bind, ih]
      rfl
  rw [this rs]
  rfl

theorem run_results {fn : Func} {rs : List Nat} (h : fn.results = (rs.map ResultVar.tmp).toArray) {J : Inj} {tm : List AV} {tmps : Array Value} (hv : VRL T J tm tmps.toList) (w : World) :
    ∃ r, (Go.results fn tmps).run P w = .ok r w ∧ VR T J (results rs tm) r := by
  have hget : ∀ t, VR T J (tm.getD t .undef) (tmps.getD t undef) := fun t => by
    have := hv.get t
    simpa [List.getD_eq_getElem?_getD, Array.getD_eq_getD_getElem?] using this
  have hall : ∀ rs : List Nat, VRL T J (rs.map fun t => tm.getD t .undef) (rs.map fun t => tmps.getD t undef) := by
    intro rs
    induction rs with
    | nil => exact .nil
    | cons t rs ih => exact .cons (hget t) ih
  refine ⟨if hh : (rs.map fun t => tmps.getD t undef).toArray.size = 1 then (rs.map fun t => tmps.getD t undef).toArray[0] else .tuple (rs.map fun t => tmps.getD t undef).toArray, ?_, ?_⟩
  · unfold Go.results
    rw [Sem.run_bind, h, run_mapM_tmps _ tmps (fun _ => rfl) rs w]
    rfl
  · match rs with
    | [t] => simpa [results] using hget t
    | [] => simpa [results] using VR.tuple (hall [])
    | t :: u :: rs =>
      have := VR.tuple (hall (t :: u :: rs))
      simpa [results] using this

theorem exFn_sound (F : Fits P T) (hm : P.follows .mixedOrders = true) {C : Cfg} (hC : C.T = T) {E : Funs} (hE : FunsOk P E) (hX : CntOk P C) : ∀ (k : Nat), CallOk P T (exFn C E k)
  | 0 => fun mode g args h v h' hr => by simp [exFn] at hr
  | k + 1 => fun mode g args h v h' hr B w0 J w xs R hv => by
    simp only [exFn] at hr
    cases hg : E g with
    | none =>
      simp only [hg] at hr
      by_cases hz : C.cnt g = true
      case neg => rw [if_neg hz] at hr; cases hr
      rw [if_pos hz] at hr
      obtain ⟨fn, hfn, hname, hbody, hnext, hfind⟩ := hX.fn g hz
      obtain ⟨r, hr1, hr2, rfl⟩ := count_sound F R hr hv
      refine .inr ⟨w, r, J, ?_, Inj.Le.refl _, hr2, R⟩
      unfold callFunc
      simp only [Go.program, Sem.run_bind, Sem.run, Result.andThen_ok, hfn, hname, hbody, Option.isNone_none, Bool.false_eq_true, if_false, if_true, run_mark, hnext, hfind, hr1]
      rfl
    | some x =>
      simp only [hg] at hr
      obtain ⟨fn, hfn, hbody, hnt, hres, hname⟩ := hE.fn g x hg
      refine .inl ⟨?_, ?_⟩
      · unfold callFunc
        simp only [Go.program, Sem.run_bind, Sem.run, Result.andThen_ok, hfn, hname, hbody, Option.isNone_some, Bool.false_eq_true, if_false]
        rfl
      · refine calls_of_wp hfn hbody ?_
        have hlen := hv.length
        have hrep : ∀ n, VRL T J (List.replicate n .undef) (List.replicate n undef) := by
          intro n
          induction n with
          | zero => exact .nil
          | succ n ih => exact .cons .undef ih
        have hstart : VRL T J (args ++ List.replicate (x.ntmps - args.length) .undef) (xs.toArray ++ Array.replicate (fn.ntmps - xs.toArray.size) undef).toList := by
          have := hv.append (hrep (x.ntmps - args.length))
          rw [Array.toList_append, Array.toList_replicate]
          rw [hnt, List.size_toArray, ← hlen]
          exact this
        have fin : ∀ {ex tm1 h1}, exCode C (exFn C E k) mode g k x.body (args ++ List.replicate (x.ntmps - args.length) .undef) h = some (ex, tm1, h1) → (ex = .normal ∨ ex = .ret) → v = results x.results tm1 → h' = h1 →
            x.body.wp P (bodyPost P fn fun e w' => ∃ J' r, J.Le J' ∧ e = .returned r ∧ VR T J' v r ∧ Rel T B w0 J' h' w')
              { tmps := xs.toArray ++ Array.replicate (fn.ntmps - xs.toArray.size) undef, defers := [] } w := by
          intro ex tm1 h1 hx hex hvv hhh
          subst hvv hhh
          refine wp_mono (exCode_sound F hm hC (exFn_sound F hm hC hE hX k) k x.body _ _ _ _ _ hx _ _ _ R hstart) fun e a' w' hp => ?_
          obtain ⟨J', h2, h3, h4, h5, h6⟩ := hp
          obtain ⟨r, hr1, hr2⟩ := run_results (P := P) hres h4 w'
          rcases hex with rfl | rfl
          · subst h3
            exact ⟨h5, r, hr1, J', r, h2, rfl, hr2, h6⟩
          · subst h3
            exact ⟨h5, r, hr1, J', r, h2, rfl, hr2, h6⟩
        split at hr
        · rename_i tm1 h1 hx
          simp only [Option.some.injEq, Prod.mk.injEq] at hr
          exact fin hx (.inl rfl) hr.1.symm hr.2.symm
        · rename_i tm1 h1 hx
          simp only [Option.some.injEq, Prod.mk.injEq] at hr
          exact fin hx (.inr rfl) hr.1.symm hr.2.symm
        · cases hr
end
end Go.Ax

/- The abstract runs once more, each handing on to what follows: for printed functions. -/
namespace Go.Ax
open Go

variable {β : Type}

def bnd {α : Type} (x : Option α) (k : α → Option β) : Option β :=
  match x with
  | some v => k v
  | none => none

def bnd2 (x : Option (AV × Heap)) (k : AV → Heap → Option β) : Option β :=
  match x with
  | some (v, h) => k v h
  | none => none

def onB (c : AV) (x y : Option β) : Option β :=
  match c with
  | .bool true => x
  | .bool false => y
  | _ => none

def onT (b : Bool) (x : Option β) : Option β :=
  match b with
  | true => x
  | false => none

/-! ### The operations by name -/
def aPick (c a b : AV) : Option AV :=
  match c with
  | .bool true => some a
  | .bool false => some b
  | _ => none

def aBinC (T : Tab) (op : BinOp) (t : Ty) (x y : AV) (c : Bool) : Option AV :=
  match x, y with
  | .nili, .nili => if T.d t = .iface ∧ c = true then
      match op with
      | .eql => some (.bool true)
      | .neq => some (.bool false)
      | _ => none
    else none
  | a, b => aBin T op t a b

def aNil : AV → Option AV
  | .ref r p t => some (.ref r p t)
  | .vptr t v => some (.vptr t v)
  | _ => none

def aExtract (x : AV) (i : Nat) : Option AV :=
  match x with
  | .tuple vs => vs[i]?
  | _ => none

def aLit (T : Tab) (t : Ty) (len : Nat) (ps : List (Nat × AV)) : Option AV := (aElems T t len ps).map fun x => .vsl x.1 x.2 .exact
def aZeroSl (T : Tab) (t : Ty) (l c : AV) : Option AV := (aZeros T t l c).map fun x => .vsl x.1 (List.replicate x.2.1 x.2.2.2) .none

def aMin (xs : List AV) : Option AV :=
  match toVs xs with
  | some vs => ofPure (Builtin.min_ #[] 0 vs.toArray)
  | none => none
def aMax (xs : List AV) : Option AV :=
  match toVs xs with
  | some vs => ofPure (Builtin.max_ #[] 0 vs.toArray)
  | none => none

def aLoad (T : Tab) (t : Ty) (x : AV) (h : Heap) : Option AV :=
  match x with
  | .ref r p u => if u = T.und t then (h[r]?).bind (objGet · p) else none
  | .vptr u v => if u = T.und t then some v else none
  | _ => none

def aConv (T : Tab) (s t : Ty) (x : AV) (h : Heap) : Option AV :=
  match T.d s, T.d t, x with
  | .int _, .int k, .int _ n => some (.int k (k.wrap n))
  | .str, .str, .str b => some (.str b)
  | .str, .slice e, .str b => if T.d e = .int .u8 then some (.vsl (T.und e) (ofBytes b.data.toList) .none) else none
  | .slice e, .str, x => if T.d e = .int .u8 then
      match (slElems h x).bind bytesOf with
      | some l => some (.str ⟨l.toArray⟩)
      | none => none
    else none
  | .slice _, .slice e0, .msl r [] e off len => match h[r]? with
    | some (.row e' _) => if s = t ∧ T.d e0 = .int .u8 ∧ T.und e0 = e ∧ e' = e then some (.msl r [] e off len) else none
    | _ => none
  | _, _, _ => none

def aAlloc (T : Tab) (t : Ty) (h : Heap) : Option (AV × Heap) := (zero T t).map fun z => (.ref h.length [] (T.und t), h ++ [.var t z])
def aBoxv (T : Tab) (t : Ty) (x : AV) (h : Heap) : Option (AV × Heap) := if fits T t x = true then some (.ref h.length [] (T.und t), h ++ [.var t x]) else none

def aStore (T : Tab) (t : Ty) (a x : AV) (h : Heap) : Option Heap :=
  match a with
  | .ref r p u => if u = T.und t ∧ fits T t x = true then
      match (h[r]?).bind (objSet x · p) with
      | some ob => some (h.set r ob)
      | none => none
    else none
  | _ => none

def aMake (T : Tab) (t : Ty) (l c : AV) (h : Heap) : Option (AV × Heap) := (aZeros T t l c).map fun x =>
  if x.2.1 = 0 then (.vsl x.1 [] .none, h) else (.msl h.length [] x.1 0 x.2.1, h ++ [.row x.1 (List.replicate x.2.2.1 x.2.2.2)])

def aRowLit (T : Tab) (t : Ty) (len : Nat) (ps : List (Nat × AV)) (h : Heap) : Option (AV × Heap) :=
  match aElems T t len ps with
  | some (e, l) => if 0 < l.length then some (.msl h.length [] e 0 l.length, h ++ [.row e l]) else none
  | none => none

def aApp (T : Tab) (t u : Ty) (mu : Bool) (s x : AV) (h : Heap) : Option (AV × Heap) :=
  match T.d t, T.d u with
  | .slice e, .slice _ => match srcElems T e h x with
    | some new => aAppend T e mu s new h
    | none => none
  | .slice e, .str => match srcElems T e h x with
    | some new => aAppend T e mu s new h
    | none => none
  | _, _ => none

def aCpy (T : Tab) (t : Ty) (d x : AV) (h : Heap) : Option (AV × Heap) :=
  match T.d t with
  | .slice e => match d with
    | .msl r p e' off len => if e' = T.und e then
        match srcElems T e h x with
        | some src => aCopy h (.msl r p e' off len) src
        | none => none
      else none
    | .vsl e' [] _ => if e' = T.und e then
        match srcElems T e h x with
        | some _ => some (.int .i64 0, h)
        | none => none
      else none
    | _ => none
  | _ => none

def aCall (call : CallF) (md : Bool) (x : AV) (args : List AV) (h : Heap) : Option (AV × Heap) :=
  match x with
  | .fn (.func g) cs => call md g (args ++ cs) h
  | _ => none

section
variable (C : Cfg) (call : CallF) (mode : Bool) (f : FuncId)

/-- An operation, and what follows it. -/
def opK (ρ : Operand → AV) (o : Oper) (h : Heap) (k0 : AV → Heap → Option β) : Option β :=
  let k : AV → Heap → Option β := if isFrz C f o then fun v h => bnd2 (freezeA v h) k0 else k0
  match o.op with
  | .move x | .assign x => k (ρ x) h
  | .pick c a b => bnd (aPick (ρ c) (ρ a) (ρ b)) (k · h)
  | .build t ps => bnd (aBuild C.T t (ps.toList.map fun x => (x.1, ρ x.2))) (k · h)
  | .binOp op t x y _ => bnd (aBinC C.T op t (ρ x) (ρ y) (isC x || isC y)) (k · h)
  | .unOp op _ x => bnd (aUn op (ρ x)) (k · h)
  | .nilCheck x => bnd (aNil (ρ x)) (k · h)
  | .fieldAddr t x i => bnd (aFieldAddr C.T t (ρ x) i) (k · h)
  | .field t x i => bnd (aField C.T t (ρ x) i) (k · h)
  | .indexAddr t x i => bnd (aIndexAddr C.T t (ρ x) (ρ i)) (k · h)
  | .index t x i => bnd (aIndex C.T t (ρ x) (ρ i)) (k · h)
  | .extract x i => bnd (aExtract (ρ x) i) (k · h)
  | .slice t x lo hi mx => bnd (aSlice C.T t (ρ x) (lo.map ρ) (hi.map ρ) (mx.map ρ)) (k · h)
  | .load t x => bnd (aLoad C.T t (ρ x) h) (k · h)
  | .convert s t x => bnd (aConv C.T s t (ρ x) h) (k · h)
  | .buildSlice t len ps => if opKind C f o = .eff then bnd2 (aRowLit C.T t len (ps.toList.map fun x => (x.1, ρ x.2)) h) k else bnd (aLit C.T t len (ps.toList.map fun x => (x.1, ρ x.2))) (k · h)
  | .makeSlice t l c => if opKind C f o = .eff then bnd2 (aMake C.T t (ρ l) (ρ c) h) k else bnd (aZeroSl C.T t (ρ l) (ρ c)) (k · h)
  | .alloc t => bnd2 (aAlloc C.T t h) k
  | .box t x => bnd2 (aBoxv C.T t (ρ x) h) k
  | .store t a x => bnd (aStore C.T t (ρ a) (ρ x) h) fun h' => k .undef h'
  | .call c => match c.callee with
    | .builtin .len => match c.args.toList, c.argTypes.toList with
      | [x], [t] => bnd (aLen C.T t (ρ x)) (k · h)
      | _, _ => none
    | .builtin .min => bnd (aMin (c.args.toList.map ρ)) (k · h)
    | .builtin .max => bnd (aMax (c.args.toList.map ρ)) (k · h)
    | .builtin .append => match c.args.toList, c.argTypes.toList with
      | [s, x], [t, u] => bnd2 (aApp C.T t u (annOf C f o = .mut || mode) (ρ s) (ρ x) h) k
      | _, _ => none
    | .builtin .copy => match c.args.toList, c.argTypes.toList with
      | [d, x], [t, _] => bnd2 (aCpy C.T t (ρ d) (ρ x) h) k
      | _, _ => none
    | .value x => bnd2 (aCall call (annOf C f o = .flip || mode) (ρ x) (c.args.toList.map ρ) h) k
    | _ => none
  | _ => none

/-- An operation without its freezing. -/
def opB (ρ : Operand → AV) (o : Oper) (h : Heap) (k : AV → Heap → Option β) : Option β :=
  match o.op with
  | .move x | .assign x => k (ρ x) h
  | .pick c a b => bnd (aPick (ρ c) (ρ a) (ρ b)) (k · h)
  | .build t ps => bnd (aBuild C.T t (ps.toList.map fun x => (x.1, ρ x.2))) (k · h)
  | .binOp op t x y _ => bnd (aBinC C.T op t (ρ x) (ρ y) (isC x || isC y)) (k · h)
  | .unOp op _ x => bnd (aUn op (ρ x)) (k · h)
  | .nilCheck x => bnd (aNil (ρ x)) (k · h)
  | .fieldAddr t x i => bnd (aFieldAddr C.T t (ρ x) i) (k · h)
  | .field t x i => bnd (aField C.T t (ρ x) i) (k · h)
  | .indexAddr t x i => bnd (aIndexAddr C.T t (ρ x) (ρ i)) (k · h)
  | .index t x i => bnd (aIndex C.T t (ρ x) (ρ i)) (k · h)
  | .extract x i => bnd (aExtract (ρ x) i) (k · h)
  | .slice t x lo hi mx => bnd (aSlice C.T t (ρ x) (lo.map ρ) (hi.map ρ) (mx.map ρ)) (k · h)
  | .load t x => bnd (aLoad C.T t (ρ x) h) (k · h)
  | .convert s t x => bnd (aConv C.T s t (ρ x) h) (k · h)
  | .buildSlice t len ps => if opKind C f o = .eff then bnd2 (aRowLit C.T t len (ps.toList.map fun x => (x.1, ρ x.2)) h) k else bnd (aLit C.T t len (ps.toList.map fun x => (x.1, ρ x.2))) (k · h)
  | .makeSlice t l c => if opKind C f o = .eff then bnd2 (aMake C.T t (ρ l) (ρ c) h) k else bnd (aZeroSl C.T t (ρ l) (ρ c)) (k · h)
  | .alloc t => bnd2 (aAlloc C.T t h) k
  | .box t x => bnd2 (aBoxv C.T t (ρ x) h) k
  | .store t a x => bnd (aStore C.T t (ρ a) (ρ x) h) fun h' => k .undef h'
  | .call c => match c.callee with
    | .builtin .len => match c.args.toList, c.argTypes.toList with
      | [x], [t] => bnd (aLen C.T t (ρ x)) (k · h)
      | _, _ => none
    | .builtin .min => bnd (aMin (c.args.toList.map ρ)) (k · h)
    | .builtin .max => bnd (aMax (c.args.toList.map ρ)) (k · h)
    | .builtin .append => match c.args.toList, c.argTypes.toList with
      | [s, x], [t, u] => bnd2 (aApp C.T t u (annOf C f o = .mut || mode) (ρ s) (ρ x) h) k
      | _, _ => none
    | .builtin .copy => match c.args.toList, c.argTypes.toList with
      | [d, x], [t, _] => bnd2 (aCpy C.T t (ρ d) (ρ x) h) k
      | _, _ => none
    | .value x => bnd2 (aCall call (annOf C f o = .flip || mode) (ρ x) (c.args.toList.map ρ) h) k
    | _ => none
  | _ => none

theorem opK_opB (ρ : Operand → AV) (o : Oper) (h : Heap) (k : AV → Heap → Option β) :
    opK C call mode f ρ o h k = opB C call mode f ρ o h (if isFrz C f o then fun v h => bnd2 (freezeA v h) k else k) := rfl

theorem bnd_some {α : Type} {x : Option α} {k : α → Option β} {r : β} (h : bnd x k = some r) : ∃ v, x = some v ∧ k v = some r := by
  cases x with
  | none => cases h
  | some v => exact ⟨v, rfl, h⟩

theorem bnd2_some {x : Option (AV × Heap)} {k : AV → Heap → Option β} {r : β} (h : bnd2 x k = some r) : ∃ v h', x = some (v, h') ∧ k v h' = some r := by
  cases x with
  | none => cases h
  | some p => cases p with | mk v h' => exact ⟨v, h', rfl, h⟩

section
variable {C call mode f}
theorem base_pure {ρ : Operand → AV} {o : Oper} {h : Heap} {v : AV} (hk : opKind C f o = .pure) (hp : exPure C.T ρ o = some v) : exBase C call mode f ρ o h = some (v, h) := by
  unfold exBase; rw [hk]; simp only [hp]
theorem base_read {ρ : Operand → AV} {o : Oper} {h : Heap} {v : AV} (hk : opKind C f o = .read) (hp : exRead C.T ρ o h = some v) : exBase C call mode f ρ o h = some (v, h) := by
  unfold exBase; rw [hk]; simp only [hp]
theorem base_eff {ρ : Operand → AV} {o : Oper} {h : Heap} {x : Option (AV × Heap)} (hk : opKind C f o = .eff) (hp : exEff C call mode f ρ o h = x) : exBase C call mode f ρ o h = x := by
  unfold exBase; rw [hk]; exact hp
end

theorem opB_sound {ρ : Operand → AV} {o : Oper} {h : Heap} {k : AV → Heap → Option β} {r : β} (he : opB C call mode f ρ o h k = some r) : ∃ v h', exBase C call mode f ρ o h = some (v, h') ∧ k v h' = some r := by
  obtain ⟨dst, op, ty, pos, after, guard⟩ := o
  cases op with
  | move x => exact ⟨ρ x, h, base_pure rfl rfl, he⟩
  | assign x => exact ⟨ρ x, h, base_pure rfl rfl, he⟩
  | pick c a b => obtain ⟨v, hv, hk⟩ := bnd_some he; exact ⟨v, h, base_pure rfl hv, hk⟩
  | build t ps => obtain ⟨v, hv, hk⟩ := bnd_some he; exact ⟨v, h, base_pure rfl hv, hk⟩
  | binOp op t x y yt => obtain ⟨v, hv, hk⟩ := bnd_some he; exact ⟨v, h, base_pure rfl hv, hk⟩
  | unOp op t x => obtain ⟨v, hv, hk⟩ := bnd_some he; exact ⟨v, h, base_pure rfl hv, hk⟩
  | nilCheck x => obtain ⟨v, hv, hk⟩ := bnd_some he; exact ⟨v, h, base_pure rfl hv, hk⟩
  | fieldAddr t x i => obtain ⟨v, hv, hk⟩ := bnd_some he; exact ⟨v, h, base_pure rfl hv, hk⟩
  | field t x i => obtain ⟨v, hv, hk⟩ := bnd_some he; exact ⟨v, h, base_pure rfl hv, hk⟩
  | indexAddr t x i => obtain ⟨v, hv, hk⟩ := bnd_some he; exact ⟨v, h, base_pure rfl hv, hk⟩
  | index t x i => obtain ⟨v, hv, hk⟩ := bnd_some he; exact ⟨v, h, base_pure rfl hv, hk⟩
  | extract x i => obtain ⟨v, hv, hk⟩ := bnd_some he; exact ⟨v, h, base_pure rfl hv, hk⟩
  | slice t x lo hi mx => obtain ⟨v, hv, hk⟩ := bnd_some he; exact ⟨v, h, base_pure rfl hv, hk⟩
  | load t x => obtain ⟨v, hv, hk⟩ := bnd_some he; exact ⟨v, h, base_read rfl hv, hk⟩
  | convert s t x => obtain ⟨v, hv, hk⟩ := bnd_some he; exact ⟨v, h, base_read rfl hv, hk⟩
  | alloc t => obtain ⟨v, h', hv, hk⟩ := bnd2_some he; exact ⟨v, h', base_eff rfl hv, hk⟩
  | box t x => obtain ⟨v, h', hv, hk⟩ := bnd2_some he; exact ⟨v, h', base_eff rfl hv, hk⟩
  | store t a x =>
    obtain ⟨h', hv, hk⟩ := bnd_some he
    refine ⟨.undef, h', base_eff rfl ?_, hk⟩
    unfold aStore at hv
    simp only [exEff]
    split at hv
    · rename_i r' p u hax
      by_cases hc : u = C.T.und t ∧ fits C.T t (ρ x) = true
      case neg => rw [if_neg hc] at hv; cases hv
      rw [if_pos hc] at hv
      rw [hax]
      simp only
      rw [if_pos hc]
      split at hv
      · rename_i ob hob
        rw [hob]
        simp only [Option.some.injEq] at hv ⊢
        rw [hv]
      · cases hv
    · cases hv
  | buildSlice t len ps =>
    simp only [opB] at he
    split at he
    · rename_i hk
      obtain ⟨v, h', hv, hk'⟩ := bnd2_some he
      exact ⟨v, h', base_eff hk hv, hk'⟩
    · rename_i hk
      obtain ⟨v, hv, hk'⟩ := bnd_some he
      refine ⟨v, h, base_pure ?_ hv, hk'⟩
      unfold opKind at hk ⊢
      simp only at hk ⊢
      split at hk
      · rename_i d
        by_cases ha : C.ann f d = .mut
        · simp [ha] at hk
        · simp [ha]
      · rfl
  | makeSlice t l c =>
    simp only [opB] at he
    split at he
    · rename_i hk
      obtain ⟨v, h', hv, hk'⟩ := bnd2_some he
      exact ⟨v, h', base_eff hk hv, hk'⟩
    · rename_i hk
      obtain ⟨v, hv, hk'⟩ := bnd_some he
      refine ⟨v, h, base_pure ?_ hv, hk'⟩
      unfold opKind at hk ⊢
      simp only at hk ⊢
      split at hk
      · rename_i d
        by_cases ha : C.ann f d = .freeze
        · simp [ha]
        · simp [ha] at hk
      · exact absurd rfl hk
  | call c =>
    obtain ⟨callee, args, ats⟩ := c
    cases callee with
    | invoke rcv nm => cases he
    | value x =>
      obtain ⟨v, h', hv, hk⟩ := bnd2_some he
      refine ⟨v, h', base_eff rfl ?_, hk⟩
      simp only [exEff]
      exact hv
    | builtin b =>
      cases b with
      | len =>
        simp only [opB] at he
        split at he
        · rename_i x t hx ht
          obtain ⟨v, hv, hk⟩ := bnd_some he
          refine ⟨v, h, base_pure rfl ?_, hk⟩
          simp only [exPure, hx, ht]
          exact hv
        · cases he
      | min =>
        obtain ⟨v, hv, hk⟩ := bnd_some he
        exact ⟨v, h, base_pure rfl hv, hk⟩
      | max =>
        obtain ⟨v, hv, hk⟩ := bnd_some he
        exact ⟨v, h, base_pure rfl hv, hk⟩
      | append =>
        simp only [opB] at he
        split at he
        · rename_i s x t u hx ht
          obtain ⟨v, h', hv, hk⟩ := bnd2_some he
          refine ⟨v, h', base_eff rfl ?_, hk⟩
          simp only [exEff, hx, ht]
          exact hv
        · cases he
      | copy =>
        simp only [opB] at he
        split at he
        · rename_i d x t u hx ht
          obtain ⟨v, h', hv, hk⟩ := bnd2_some he
          refine ⟨v, h', base_eff rfl ?_, hk⟩
          simp only [exEff, hx, ht]
          exact hv
        · cases he
      | _ => cases he
  | _ => cases he

theorem opK_sound {ρ : Operand → AV} {o : Oper} {h : Heap} {k : AV → Heap → Option β} {r : β} (he : opK C call mode f ρ o h k = some r) : ∃ v h', exOp C call mode f ρ o h = some (v, h') ∧ k v h' = some r := by
  rw [opK_opB] at he
  obtain ⟨v, h', hb, hk⟩ := opB_sound C call mode f he
  unfold exOp
  rw [hb]
  simp only
  split at hk
  · rename_i hz
    obtain ⟨v2, h2, hf, hk2⟩ := bnd2_some hk
    exact ⟨v2, h2, by rw [if_pos hz]; exact hf, hk2⟩
  · rename_i hz
    exact ⟨v, h', by rw [if_neg hz], hk⟩

/-! ### Regions -/
/-- A guard's slot: what is done if it lets pass, and if not (an operation that was passed by lets nothing pass). -/
def onG (want : Bool) (c : AV) (x y : Option β) : Option β :=
  match c with
  | .bool b => if b = want then x else y
  | .skip => y
  | _ => none

theorem onG_some {want : Bool} {c : AV} {x y : Option β} {r : β} (h : onG want c x y = some r) : (c = .bool want ∧ x = some r) ∨ ((c = .bool (!want) ∨ c = .skip) ∧ y = some r) := by
  unfold onG at h
  split at h
  · rename_i b
    split at h
    · rename_i hb; subst hb; exact .inl ⟨rfl, h⟩
    · rename_i hb; exact .inr ⟨.inl (by cases b <;> cases want <;> simp_all), h⟩
  · exact .inr ⟨.inr rfl, h⟩
  · cases h

theorem onB_some {c : AV} {x y : Option β} {r : β} (h : onB c x y = some r) : (c = .bool true ∧ x = some r) ∨ (c = .bool false ∧ y = some r) := by
  unfold onB at h
  split at h
  · exact .inl ⟨rfl, h⟩
  · exact .inr ⟨rfl, h⟩
  · cases h

def guardK (ops : Array Oper) (tm : List AV) (g : Option (Nat × Bool)) (x y : Option β) : Option β :=
  match g with
  | none => x
  | some (j, want) => match (ops[j]?).bind (·.dst) with
    | some d => onG want (tm.getD d .undef) x y
    | none => none

theorem guardK_sound {ops : Array Oper} {tm : List AV} {g : Option (Nat × Bool)} {x y : Option β} {r : β} (h : guardK ops tm g x y = some r) :
    (guardA ops tm g = some true ∧ x = some r) ∨ (guardA ops tm g = some false ∧ y = some r) := by
  unfold guardK at h
  unfold guardA
  cases g with
  | none => exact .inl ⟨rfl, h⟩
  | some jw =>
    obtain ⟨j, want⟩ := jw
    simp only at h ⊢
    cases hd : (ops[j]?).bind (·.dst) with
    | none => simp [hd] at h
    | some d =>
      simp only [hd] at h ⊢
      have hget : ∀ v, v ≠ .undef → tm.getD d .undef = v → tm[d]? = some v := by
        intro v hne hb
        rw [List.getD_eq_getElem?_getD] at hb
        cases ht : tm[d]? with
        | none => simp only [ht, Option.getD_none] at hb; exact absurd hb.symm hne
        | some v => simp only [ht, Option.getD_some] at hb; rw [hb]
      rcases onG_some h with ⟨h1, h2⟩ | ⟨h1 | h1, h2⟩
      · exact .inl ⟨by rw [hget _ (by simp) h1]; cases want <;> rfl, h2⟩
      · exact .inr ⟨by rw [hget _ (by simp) h1]; cases want <;> rfl, h2⟩
      · exact .inr ⟨by rw [hget _ (by simp) h1], h2⟩

def opsK (ops : Array Oper) : List Oper → List AV → Heap → (List AV → Heap → Option β) → Option β
  | [], tm, h, k => k tm h
  | o :: r, tm, h, k => guardK ops tm o.guard (opK C call mode f (evalA tm) o h fun v h' => opsK ops r (putT tm o.dst v) h' k) (opsK ops r (putT tm o.dst .skip) h k)

theorem opsK_sound {ops : Array Oper} : ∀ {l : List Oper} {tm : List AV} {h : Heap} {k : List AV → Heap → Option β} {r : β}, opsK C call mode f ops l tm h k = some r →
    ∃ tm' h', runOps C call mode f ops l tm h = some (tm', h') ∧ k tm' h' = some r
  | [], tm, h, k, r, he => ⟨tm, h, rfl, he⟩
  | o :: l, tm, h, k, r, he => by
    simp only [opsK] at he
    rcases guardK_sound he with ⟨h1, h2⟩ | ⟨h1, h2⟩
    · obtain ⟨v, h', h3, h4⟩ := opK_sound C call mode f h2
      obtain ⟨tm', h'', h5, h6⟩ := opsK_sound h4
      exact ⟨tm', h'', by simp only [runOps, stepA, h1, h3]; exact h5, h6⟩
    · obtain ⟨tm', h'', h5, h6⟩ := opsK_sound h2
      exact ⟨tm', h'', by simp only [runOps, stepA, h1]; exact h5, h6⟩

def trcK (ops : Array Oper) : List Oper → List AV → Heap → List (List AV × Heap × AV) → (List (List AV × Heap × AV) → List AV → Heap → Option β) → Option β
  | [], tm, h, acc, k => k acc tm h
  | o :: r, tm, h, acc, k => guardK ops tm o.guard (opK C call mode f (evalA tm) o h fun v h' => trcK ops r (putT tm o.dst v) h' (acc ++ [(tm, h, v)]) k) (trcK ops r (putT tm o.dst .skip) h (acc ++ [(tm, h, .skip)]) k)

theorem trcK_sound {ops : Array Oper} : ∀ {l : List Oper} {tm : List AV} {h : Heap} {acc : List (List AV × Heap × AV)} {k : List (List AV × Heap × AV) → List AV → Heap → Option β} {r : β},
    trcK C call mode f ops l tm h acc k = some r → ∃ tr tm' h', traceOps C call mode f ops l tm h = some (tr, tm', h') ∧ k (acc ++ tr) tm' h' = some r
  | [], tm, h, acc, k, r, he => ⟨[], tm, h, rfl, by simp only [trcK] at he; simpa using he⟩
  | o :: l, tm, h, acc, k, r, he => by
    simp only [trcK] at he
    rcases guardK_sound he with ⟨h1, h2⟩ | ⟨h1, h2⟩
    · obtain ⟨v, h', h3, h4⟩ := opK_sound C call mode f h2
      obtain ⟨tr, tm', h'', h5, h6⟩ := trcK_sound h4
      exact ⟨(tm, h, v) :: tr, tm', h'', by simp only [traceOps, stepA, h1, h3, h5], by simpa using h6⟩
    · obtain ⟨tr, tm', h'', h5, h6⟩ := trcK_sound h2
      exact ⟨(tm, h, .skip) :: tr, tm', h'', by simp only [traceOps, stepA, h1, h5], by simpa using h6⟩

/-- The checks of reads, one behind the other. -/
def chkK (all : Array Oper) (ops : List Oper) (tr : List (List AV × Heap × AV)) (last : Heap) : List (Nat × Nat) → Option β → Option β
  | [], k => k
  | x :: r, k => onT (readOk C all ops tr last x) (chkK all ops tr last r k)

theorem chkK_sound {all : Array Oper} {ops : List Oper} {tr : List (List AV × Heap × AV)} {last : Heap} : ∀ {ps : List (Nat × Nat)} {k : Option β} {r : β}, chkK C all ops tr last ps k = some r → readsOk C all ops tr last ps = true ∧ k = some r
  | [], k, r, he => ⟨rfl, he⟩
  | x :: ps, k, r, he => by
    simp only [chkK, onT] at he
    split at he
    · rename_i hx
      obtain ⟨h1, h2⟩ := chkK_sound he
      exact ⟨by simp only [readsOk, hx, h1]; rfl, h2⟩
    · cases he

def regK (ops : Array Oper) (draw : Bool) (tm : List AV) (h : Heap) (k : List AV → Heap → Option β) : Option β :=
  if draw then
    if drawOk C f ops.toList (masks ops.toList []) ops then
      trcK C call mode f ops ops.toList tm h [] fun tr tm' h' => chkK C ops ops.toList tr h' (pairsOf C f ops.toList (masks ops.toList [])) (k tm' h')
    else none
  else opsK C call mode f ops ops.toList tm h k

theorem regK_sound {ops : Array Oper} {draw : Bool} {tm : List AV} {h : Heap} {k : List AV → Heap → Option β} {r : β} (he : regK C call mode f ops draw tm h k = some r) :
    ∃ tm' h', exRegion C call mode f ops draw tm h = some (tm', h') ∧ k tm' h' = some r := by
  unfold regK at he
  unfold exRegion
  cases draw with
  | false => exact opsK_sound C call mode f he
  | true =>
    simp only [if_true] at he ⊢
    split at he
    · rename_i hok
      rw [if_pos hok]
      obtain ⟨tr, tm', h', h1, h2⟩ := trcK_sound C call mode f he
      obtain ⟨h3, h4⟩ := chkK_sound C h2
      simp only [List.nil_append] at h3
      exact ⟨tm', h', by simp only [h1]; rw [if_pos h3], h4⟩
    · cases he

theorem opsK_append {ops : Array Oper} : ∀ (l1 l2 : List Oper) (tm : List AV) (h : Heap) (k : List AV → Heap → Option β),
    opsK C call mode f ops (l1 ++ l2) tm h k = opsK C call mode f ops l1 tm h fun tm h => opsK C call mode f ops l2 tm h k
  | [], l2, tm, h, k => rfl
  | o :: l1, l2, tm, h, k => by simp only [List.cons_append, opsK, opsK_append l1]

theorem trcK_append {ops : Array Oper} : ∀ (l1 l2 : List Oper) (tm : List AV) (h : Heap) (acc : List (List AV × Heap × AV)) (k : List (List AV × Heap × AV) → List AV → Heap → Option β),
    trcK C call mode f ops (l1 ++ l2) tm h acc k = trcK C call mode f ops l1 tm h acc fun acc tm h => trcK C call mode f ops l2 tm h acc k
  | [], l2, tm, h, acc, k => rfl
  | o :: l1, l2, tm, h, acc, k => by simp only [List.cons_append, trcK, trcK_append l1]

theorem trcK_ops {ops : Array Oper} : ∀ (l : List Oper) (tm : List AV) (h : Heap) (acc : List (List AV × Heap × AV)) (k : List AV → Heap → Option β),
    trcK C call mode f ops l tm h acc (fun _ tm h => k tm h) = opsK C call mode f ops l tm h k
  | [], tm, h, acc, k => rfl
  | o :: l, tm, h, acc, k => by simp only [trcK, opsK, trcK_ops l]

/-- A drawn region without reads to check. -/
theorem regK_draw {ops : Array Oper} (hd : drawOk C f ops.toList (masks ops.toList []) ops = true) (hp : pairsOf C f ops.toList (masks ops.toList []) = []) (tm : List AV) (h : Heap) (k : List AV → Heap → Option β) :
    regK C call mode f ops true tm h k = opsK C call mode f ops ops.toList tm h k := by
  unfold regK
  simp only [if_true]
  rw [if_pos hd, hp]
  exact trcK_ops C call mode f ops.toList tm h [] k

/-- A drawn region with reads to check. -/
theorem regK_pairs {ops : Array Oper} {ps : List (Nat × Nat)} (hd : drawOk C f ops.toList (masks ops.toList []) ops = true) (hp : pairsOf C f ops.toList (masks ops.toList []) = ps) (tm : List AV) (h : Heap) (k : List AV → Heap → Option β) :
    regK C call mode f ops true tm h k = trcK C call mode f ops ops.toList tm h [] fun tr tm' h' => chkK C ops ops.toList tr h' ps (k tm' h') := by
  unfold regK
  simp only [if_true]
  rw [if_pos hd, hp]

/-! ### Code -/
def loopK (step : (List AV → Heap → Option β) → List AV → Heap → Option β) : Nat → List AV → Heap → Option β
  | 0, _, _ => none
  | n + 1, tm, h => step (loopK step n) tm h

def runK (n : Nat) : Code → (Ex → List AV → Heap → Option β) → List AV → Heap → Option β
  | .skip, k, tm, h => k .normal tm h
  | .label _, k, tm, h => k .normal tm h
  | .ret, k, tm, h => k .ret tm h
  | .exit id, k, tm, h => k (.exit id) tm h
  | .region id ops draw, k, tm, h => regK C call mode f ops draw tm h fun tm' h' => k .normal (clr (C.keep f id) tm') h'
  | .seq a b, k, tm, h => runK n a (fun ex tm' h' => match ex with
    | .normal => runK n b k tm' h'
    | ex => k ex tm' h') tm h
  | .cond c x y, k, tm, h => onB (evalA tm c) (runK n x k tm h) (runK n y k tm h)
  | .block id c, k, tm, h => runK n c (fun ex tm' h' => match ex with
    | .exit id' => if id' = id then k .normal tm' h' else k (.exit id') tm' h'
    | ex => k ex tm' h') tm h
  | .loop c, k, tm, h => loopK (fun next => runK n c fun ex tm' h' => match ex with
    | .normal => next tm' h'
    | ex => k ex tm' h') n tm h
  | _, _, _, _ => none

theorem runK_region (n id : Nat) (ops : Array Oper) (k : Ex → List AV → Heap → Option β) (tm : List AV) (h : Heap) :
    runK C call mode f n (.region id ops false) k tm h = opsK C call mode f ops ops.toList tm h fun tm h => k .normal (clr (C.keep f id) tm) h := rfl
theorem runK_draw (n id : Nat) (ops : Array Oper) (k : Ex → List AV → Heap → Option β) (tm : List AV) (h : Heap) :
    runK C call mode f n (.region id ops true) k tm h = regK C call mode f ops true tm h fun tm h => k .normal (clr (C.keep f id) tm) h := rfl

theorem runK_sound (n : Nat) : ∀ (c : Code) {k : Ex → List AV → Heap → Option β} {tm : List AV} {h : Heap} {r : β}, runK C call mode f n c k tm h = some r →
    ∃ ex tm' h', exCode C call mode f n c tm h = some (ex, tm', h') ∧ k ex tm' h' = some r
  | .skip, k, tm, h, r, he => ⟨.normal, tm, h, rfl, he⟩
  | .label _, k, tm, h, r, he => ⟨.normal, tm, h, rfl, he⟩
  | .ret, k, tm, h, r, he => ⟨.ret, tm, h, rfl, he⟩
  | .exit id, k, tm, h, r, he => ⟨.exit id, tm, h, rfl, he⟩
  | .region id ops draw, k, tm, h, r, he => by
    obtain ⟨tm', h', h1, h2⟩ := regK_sound C call mode f he
    exact ⟨.normal, clr (C.keep f id) tm', h', by simp only [exCode, h1], h2⟩
  | .seq a b, k, tm, h, r, he => by
    simp only [runK] at he
    obtain ⟨ex, tm', h', h1, h2⟩ := runK_sound n a he
    cases ex with
    | normal =>
      obtain ⟨ex2, tm2, h3, h4, h5⟩ := runK_sound n b h2
      exact ⟨ex2, tm2, h3, by simp only [exCode, h1, h4], h5⟩
    | exit id => exact ⟨.exit id, tm', h', by simp only [exCode, h1], h2⟩
    | ret => exact ⟨.ret, tm', h', by simp only [exCode, h1], h2⟩
  | .cond c x y, k, tm, h, r, he => by
    simp only [runK] at he
    rcases onB_some he with ⟨h1, h2⟩ | ⟨h1, h2⟩
    · obtain ⟨ex, tm', h', h3, h4⟩ := runK_sound n x h2
      exact ⟨ex, tm', h', by simp only [exCode, h1, h3], h4⟩
    · obtain ⟨ex, tm', h', h3, h4⟩ := runK_sound n y h2
      exact ⟨ex, tm', h', by simp only [exCode, h1, h3], h4⟩
  | .block id c, k, tm, h, r, he => by
    simp only [runK] at he
    obtain ⟨ex, tm', h', h1, h2⟩ := runK_sound n c he
    cases ex with
    | normal => exact ⟨.normal, tm', h', by simp only [exCode, h1], h2⟩
    | exit id' =>
      simp only at h2
      by_cases hid : id' = id
      · rw [if_pos hid] at h2
        exact ⟨.normal, tm', h', by simp only [exCode, h1, hid, if_true], h2⟩
      · rw [if_neg hid] at h2
        exact ⟨.exit id', tm', h', by simp only [exCode, h1, hid, if_false], h2⟩
    | ret => exact ⟨.ret, tm', h', by simp only [exCode, h1], h2⟩
  | .loop c, k, tm, h, r, he => by
    simp only [runK] at he
    have key : ∀ (m : Nat) {tm : List AV} {h : Heap}, loopK (fun next => runK C call mode f n c fun ex tm' h' => match ex with
        | .normal => next tm' h'
        | ex => k ex tm' h') m tm h = some r → ∃ ex tm' h', loopA (exCode C call mode f n c) m tm h = some (ex, tm', h') ∧ k ex tm' h' = some r := by
      intro m
      induction m with
      | zero => intro tm h he; simp [loopK] at he
      | succ m ih =>
        intro tm h he
        simp only [loopK] at he
        obtain ⟨ex, tm', h', h1, h2⟩ := runK_sound n c he
        cases ex with
        | normal =>
          obtain ⟨ex2, tm2, h3, h4, h5⟩ := ih h2
          exact ⟨ex2, tm2, h3, by simp only [loopA, h1, h4], h5⟩
        | exit id => exact ⟨.exit id, tm', h', by simp only [loopA, h1], h2⟩
        | ret => exact ⟨.ret, tm', h', by simp only [loopA, h1], h2⟩
    obtain ⟨ex, tm', h', h1, h2⟩ := key n he
    exact ⟨ex, tm', h', by simp only [exCode, h1], h2⟩
  | .rangeFunc .., _, _, _, _, he => by simp [runK] at he
  | .scope _, _, _, _, _, he => by simp [runK] at he
  | .goto _, _, _, _, _, he => by simp [runK] at he
  | .refuse _, _, _, _, _, he => by simp [runK] at he
end

/-- Where a function's run ends. -/
def retK (rs : List Nat) : Ex → List AV → Heap → Option (AV × Heap)
  | .normal, tm, h => some (results rs tm, h)
  | .ret, tm, h => some (results rs tm, h)
  | _, _, _ => none

/-- A function's body, run with what follows. -/
def fnK (C : Cfg) (call : CallF) (mode : Bool) (f : FuncId) (n : Nat) (x : Fn') (args : List AV) (h : Heap) : Option (AV × Heap) :=
  runK C call mode f n x.body (retK x.results) (args ++ List.replicate (x.ntmps - args.length) .undef) h

theorem exFn_of {C : Cfg} {E : Funs} {k : Nat} {mode : Bool} {f : FuncId} {x : Fn'} {args : List AV} {h : Heap} {r : AV × Heap} (hx : E f = some x) (he : fnK C (exFn C E k) mode f k x args h = some r) :
    exFn C E (k + 1) mode f args h = some r := by
  obtain ⟨ex, tm', h', h1, h2⟩ := runK_sound C (exFn C E k) mode f k x.body he
  simp only [exFn, hx, h1]
  cases ex with
  | normal => exact h2
  | ret => exact h2
  | exit id => cases h2

theorem exFn_cnt {C : Cfg} {E : Funs} {k : Nat} {mode : Bool} {f : FuncId} {args : List AV} {h : Heap} (hx : E f = none) (hc : C.cnt f = true) : exFn C E (k + 1) mode f args h = aCount args h := by
  simp only [exFn, hx, hc, if_true]
end Go.Ax

/- The functions of this translation as abstract ones, and what is kept of each region's slots. Printed by a program of mine (gen.py). -/
namespace Go.Ax
open Go Go.Proofs

def tmpsOf : List ResultVar → Option (List Nat)
  | [] => some []
  | .tmp t :: r => (tmpsOf r).map (t :: ·)
  | _ :: _ => none

theorem tmpsOf_some : ∀ {l : List ResultVar} {r : List Nat}, tmpsOf l = some r → l = r.map ResultVar.tmp
  | [], r, h => by simp only [tmpsOf, Option.some.injEq] at h; subst h; rfl
  | .tmp t :: l, r, h => by
    simp only [tmpsOf, Option.map_eq_some_iff] at h
    obtain ⟨r', h1, h2⟩ := h
    subst h2
    rw [tmpsOf_some h1]; rfl
  | .cell _ _ :: l, r, h => by simp [tmpsOf] at h

def toFn (f : Func) : Option Fn' :=
  match f.body, tmpsOf f.results.toList with
  | some b, some rs => if (f.name == "runtime.NumGoroutine") = true then none else some ⟨f.ntmps, rs, b⟩
  | _, _ => none

theorem toFn_some {f : Func} {x : Fn'} (h : toFn f = some x) : f.body = some x.body ∧ f.ntmps = x.ntmps ∧ f.results = (x.results.map ResultVar.tmp).toArray ∧ (f.name == "runtime.NumGoroutine") = false := by
  unfold toFn at h
  split at h
  · rename_i b rs hb hr
    split at h
    · cases h
    · rename_i hn
      simp only [Option.some.injEq] at h
      subst h
      refine ⟨hb, rfl, ?_, by simpa using hn⟩
      have := tmpsOf_some hr
      rw [← this]
  · cases h

noncomputable def E0 : Funs := fun g => (Try.prog.funcs[g]?).bind toFn

theorem E0_ok : FunsOk Try.prog E0 := by
  refine ⟨fun g x hx => ?_⟩
  unfold E0 at hx
  cases hf : Try.prog.funcs[g]? with
  | none => simp [hf] at hx
  | some f =>
    simp only [hf, Option.bind_some] at hx
    obtain ⟨h1, h2, h3, h4⟩ := toFn_some hx
    exact ⟨f, rfl, h1, h2, h3, h4⟩

noncomputable def bodyOf (f : Func) : Code := f.body.getD .skip

/-- The region of a number in a body. -/
def findOps (i : Nat) : Code → Option (Array Oper)
  | .region id ops _ => if id = i then some ops else none
  | .seq a b => match findOps i a with
    | some o => some o
    | none => findOps i b
  | .cond _ a b => match findOps i a with
    | some o => some o
    | none => findOps i b
  | .block _ c => findOps i c
  | .loop c => findOps i c
  | .scope c => findOps i c
  | _ => none

def opsOf (i : Nat) (c : Code) : Array Oper := (findOps i c).getD #[]

def annOfL : List (List (Nat × Ann)) → Nat → Nat → Ann
  | l, f, d => match (l.getD f []).lookup d with
    | some a => a
    | none => .plain
def keepOfL : List (List (Nat × List Nat)) → Nat → Nat → Option (List Nat)
  | l, f, i => (l.getD f []).lookup i


/-- The slots of a function, those that hold something named. -/
def stFrom (l : List (Nat × AV)) : Nat → Nat → List AV
  | 0, _ => []
  | n + 1, i => ((l.lookup i).getD .undef) :: stFrom l n (i + 1)

def st (n : Nat) (l : List (Nat × AV)) : List AV := stFrom l n 0

theorem stFrom_getD (l : List (Nat × AV)) : ∀ (n i j : Nat), (stFrom l n i).getD j .undef = if j < n then (l.lookup (i + j)).getD .undef else .undef
  | 0, i, j => by simp [stFrom]
  | n + 1, i, 0 => by simp [stFrom]
  | n + 1, i, j + 1 => by
    have := stFrom_getD l n (i + 1) j
    simp only [stFrom, List.getD_cons_succ, this, Nat.add_lt_add_iff_right]
    rw [show i + 1 + j = i + (j + 1) by omega]

theorem st_getD (n : Nat) (l : List (Nat × AV)) (j : Nat) : (st n l).getD j .undef = if j < n then (l.lookup j).getD .undef else .undef := by
  unfold st; rw [stFrom_getD]; simp

theorem st_tmp (n : Nat) (l : List (Nat × AV)) (j : Nat) : evalA (st n l) (.tmp j) = if j < n then (l.lookup j).getD .undef else .undef := st_getD n l j

def annL : List (List (Nat × Ann)) := [[],
  [],
  [],
  [],
  [],
  [],
  [],
  [(32, .freeze)],
  [],
  [],
  [],
  [],
  [(9, .mut), (10, .freeze)],
  [],
  [],
  [],
  [],
  [],
  [],
  [],
  [],
  [(2, .freeze)],
  [],
  [],
  [],
  [],
  [],
  [(40, .mut)],
  [],
  [(21, .freeze)],
  [],
  [],
  [],
  [],
  [],
  [],
  [(17, .mut), (18, .freeze)],
  [],
  [],
  [(21, .freeze), (23, .mut)],
  [],
  [],
  [],
  [],
  [],
  [],
  [],
  [],
  [],
  [],
  [],
  [],
  [],
  [],
  [],
  [],
  [],
  [(18, .freeze)],
  [],
  [],
  [],
  [],
  [],
  [],
  [],
  [],
  [],
  [],
  [],
  [],
  [],
  [],
  [],
  [],
  [],
  [],
  [],
  [],
  [],
  [],
  [],
  [],
  [],
  [],
  [],
  [],
  []]
def keepL : List (List (Nat × List Nat)) := [[],
  [],
  [(0, [])],
  [(0, [0, 1, 2]), (1, [0, 1, 2, 21]), (2, [6]), (3, [0, 1, 2, 7]), (4, [0, 1, 2, 7, 8, 9]), (5, [0, 1, 7, 8, 9, 10, 11]), (6, [0, 8, 9, 10, 11, 12, 13]), (7, [6])],
  [(0, [0, 1, 2]), (1, [1, 2, 18]), (2, [6]), (3, [1, 2, 7]), (4, [1, 2, 7, 8]), (5, [1, 2, 7, 8, 22]), (6, [1, 2, 7, 8]), (7, [1, 2, 7, 8]), (8, [1, 2, 7]), (9, [7, 9, 10]), (10, [7, 9, 10, 11]), (11, [7, 9, 10, 11, 12]), (12, [7, 9, 10, 11, 12, 45]), (13, [7, 9, 10, 11, 12]), (14, [7, 9, 10, 11, 12, 13]), (15, [7, 9, 10, 11, 12, 13, 15]), (16, [7, 9, 10, 11, 12, 13, 15, 66]), (17, [7, 9, 10, 11, 12, 13, 15]), (18, [7, 9, 10, 11, 12, 71]), (19, [6]), (20, [6])],
  [(0, [0, 1, 2, 3, 4, 5]), (1, [0, 1, 2, 3, 4, 5, 29]), (2, [12]), (3, [0, 1, 2, 3, 4, 5, 13]), (4, [0, 1, 2, 3, 4, 5, 13, 14, 15]), (5, [0, 1, 3, 4, 5, 13, 14, 15]), (6, [0, 1, 3, 4, 5, 13, 15, 17]), (7, [0, 1, 13, 15, 17]), (8, [0, 1, 15, 17, 18]), (9, [15, 17, 18, 20, 21]), (10, [12])],
  [(0, [0, 1, 2, 3, 4]), (1, [0, 1, 2, 3, 4, 22]), (2, [10]), (3, [2, 3, 4, 11, 12, 13]), (4, [2, 3, 4, 11, 12, 13, 14, 15]), (5, [2, 3, 11, 12, 13, 14, 15, 16, 17]), (6, [2, 3, 11, 12, 61]), (7, [10]), (8, [11, 12, 18, 19]), (9, [10])],
  [(0, [0, 1]), (1, [1, 5]), (2, [1, 5, 6]), (3, [1, 5, 7, 9]), (4, [5, 7, 9, 10]), (5, [7, 9, 10, 11]), (6, [7, 9, 10, 12]), (7, [7, 9, 10, 12, 13]), (8, [7, 9, 10, 12, 13, 43]), (9, [7, 9, 10, 12, 13]), (10, [7, 9, 10, 12, 13, 49]), (11, [4]), (12, [7, 9, 10, 12, 14]), (13, [7, 9, 10, 12, 14, 15]), (14, [7, 9, 10, 12, 14, 15, 16]), (15, [7, 9, 10, 12, 14, 15, 16, 17]), (16, [7, 9, 10, 12, 14, 15, 16, 17, 59]), (17, [7, 9, 10, 12, 14, 15, 16, 17]), (18, [4])],
  [(0, [0, 1]), (1, [0, 1, 5]), (2, [0, 1, 5, 6, 8]), (3, [0, 5, 6, 8, 9, 11]), (4, [4])],
  [(0, [0, 1, 2]), (1, [0, 1, 2, 21]), (2, [6]), (3, [0, 1, 2, 7]), (4, [0, 1, 2, 7, 8, 10]), (5, [0, 1, 2, 7, 8, 31]), (6, [6]), (7, [1, 2, 7, 8, 11]), (8, [1, 2, 7, 8, 11, 12]), (9, [1, 2, 7, 8, 11, 12, 38]), (10, [1, 2, 7, 8, 11, 12]), (11, [1, 2, 7, 8, 11, 12, 46]), (12, [6]), (13, [1, 2, 7, 11, 13]), (14, [1, 2, 7, 11, 13, 14]), (15, [1, 2, 7, 11, 13, 14, 58]), (16, [6]), (17, [7, 11, 13, 14]), (18, [7, 11, 13]), (19, [7, 11, 13]), (20, [11, 13, 16, 17, 18]), (21, [11, 13, 16, 17, 18, 19]), (22, [11, 13, 16, 17, 18, 19, 86]), (23, [11, 13, 16, 17, 18, 19]), (24, [6])],
  [(0, [0, 1]), (1, [0, 1, 26]), (2, [4]), (3, [1, 5]), (4, [1, 6, 7]), (5, [1, 6, 7, 8, 9, 10]), (6, [1, 6, 7, 8, 9, 10, 11, 12, 13]), (7, [1, 6, 7, 8, 10, 11, 55]), (8, [4]), (9, [1, 6, 7, 8, 11, 57]), (10, [4]), (11, [1, 6, 7, 8, 11, 14]), (12, [1, 6, 7, 8, 11, 14, 66]), (13, [1, 6, 7, 8, 11, 14]), (14, [1, 6, 7, 8, 11, 14, 15]), (15, [1, 6, 7, 8, 11, 14, 15, 76]), (16, [1, 6, 7, 8, 11, 14, 15, 16, 17]), (17, [1, 6, 7, 8, 11, 14, 15, 16, 17, 78]), (18, [1, 6, 7, 14, 15, 16, 17, 81]), (19, [1, 6, 7, 14, 15, 16, 17]), (20, [1, 6, 7, 14, 16, 17]), (21, [1, 6, 7, 14, 16, 17, 18, 19, 20]), (22, [1, 6, 7, 14, 16, 17, 18, 19, 20, 21, 22, 23]), (23, [1, 6, 7, 14, 16, 17, 18, 20, 21, 118]), (24, [4]), (25, [1, 6, 7, 14, 16, 17, 18, 21, 120]), (26, [4]), (27, [1, 6, 7, 8, 11, 14, 16, 17]), (28, [1, 6, 7, 8, 11, 14, 15, 16, 17, 78, 129]), (29, [1, 6, 7, 8, 11, 14, 16, 17]), (30, [1, 6, 7, 8, 11, 14, 15, 16, 17, 78, 139]), (31, [1, 6, 7, 8, 11, 14, 16, 17]), (32, [1, 6, 7, 8, 11, 14, 15, 16, 17, 149]), (33, [1, 6, 7, 8, 11, 14, 15, 16, 17]), (34, [1, 6, 7, 8, 11, 14, 15, 16, 17]), (35, [1, 6, 7, 8, 11, 14, 16, 17, 162]), (36, [1, 6, 7, 8, 11, 14, 16, 17]), (37, [1, 6, 7, 8, 11, 14, 177]), (38, [4]), (39, [4])],
  [(0, [0, 1, 2, 3, 4, 5, 6]), (1, [0, 1, 2, 3, 4, 5, 6, 33]), (2, [14]), (3, [0, 1, 2, 3, 4, 5, 6, 15]), (4, [0, 1, 2, 3, 4, 5, 6, 15, 16, 18]), (5, [0, 1, 2, 3, 4, 5, 6, 15, 16, 43]), (6, [14]), (7, [0, 1, 2, 3, 4, 5, 6, 15, 16, 19, 20]), (8, [0, 1, 2, 3, 4, 5, 6, 15, 16, 19, 20, 21]), (9, [0, 1, 3, 4, 5, 6, 15, 16, 19, 20, 21]), (10, [0, 1, 3, 4, 5, 6, 15, 16, 19, 20, 21, 22]), (11, [0, 1, 3, 4, 5, 6, 15, 16, 19, 20, 21, 22, 55]), (12, [0, 1, 3, 4, 5, 6, 15, 16, 19, 20, 21, 22]), (13, [0, 1, 3, 4, 5, 6, 15, 16, 19, 20, 21, 22, 63]), (14, [0, 1, 3, 4, 5, 6, 15, 16, 19, 22, 24]), (15, [0, 1, 3, 4, 5, 6, 15, 16, 19, 22, 24, 78]), (16, [0, 1, 3, 4, 5, 6, 15, 16, 19, 22, 23, 24]), (17, [0, 1, 3, 4, 5, 6, 15, 16, 19, 22, 23, 24]), (18, [0, 1, 3, 4, 5, 6, 15, 16, 19, 20, 21, 22, 23, 24]), (19, [0, 1, 3, 4, 5, 6, 15, 16, 19, 20, 21, 22, 24, 100]), (20, [0, 1, 3, 4, 5, 6, 15, 16, 19, 20, 21, 22]), (21, [0, 1, 3, 4, 5, 6, 15, 16, 19, 20, 21, 22, 103]), (22, [14]), (23, [3, 4, 5, 6, 15, 19, 20, 21]), (24, [3, 4, 5, 15, 19, 20, 21]), (25, [3, 4, 5, 15, 19, 20, 21]), (26, [15, 19, 20, 21]), (27, [15, 19, 20, 21, 26, 27]), (28, [19, 20, 21, 26, 27, 29, 30]), (29, [14])],
  [(0, []), (1, [1]), (2, [1, 2, 3]), (3, [2, 3, 4, 5]), (4, [0])],
  [(0, [0]), (1, [2])],
  [(0, [0, 1, 2, 3, 4]), (1, [0, 1, 2, 3, 4, 33]), (2, [10, 11]), (3, [0, 1, 2, 3, 4, 12]), (4, [0, 1, 3, 4, 12, 49]), (5, [10, 11]), (6, [0, 1, 3, 4, 12, 13]), (7, [0, 1, 3, 4, 12, 13, 52]), (8, [0, 1, 3, 4, 12, 13]), (9, [0, 1, 3, 4, 12, 13, 14]), (10, [0, 1, 3, 4, 12, 13, 15]), (11, [0, 1, 3, 4, 12, 13, 15, 72]), (12, [10, 11]), (13, [0, 1, 3, 4, 12, 16]), (14, [0, 1, 3, 4, 12, 16, 77]), (15, [10, 11]), (16, [0, 1, 12, 17]), (17, [0, 1, 12, 17, 86]), (18, [10, 11]), (19, [1, 12, 18]), (20, [1, 12, 18, 91]), (21, [10, 11]), (22, [10, 11])],
  [(0, [0, 1, 2, 3]), (1, [0, 1, 2, 3, 10]), (2, [0, 1, 2, 3, 10, 11, 12]), (3, [0, 1, 2, 3, 10, 11, 22]), (4, [8, 9]), (5, [0, 1, 2, 3, 10, 11]), (6, [0, 1, 2, 3, 10])],
  [(0, [0, 1]), (1, [0, 1, 10]), (2, [4]), (3, [0, 1, 5]), (4, [0, 1, 5, 14]), (5, [0, 1, 5]), (6, [0, 1, 5, 26]), (7, [4]), (8, [4])],
  [(0, [0, 1, 2]), (1, [0, 1, 2, 16]), (2, [6]), (3, [0, 1, 2, 19]), (4, [6]), (5, [0, 2, 7]), (6, [0, 7]), (7, []), (8, [6])],
  [(0, [0]), (1, [0, 5]), (2, [2]), (3, [0, 8]), (4, [2]), (5, [0, 15, 16, 17]), (6, [0, 15, 16, 17, 18]), (7, [0, 4, 15, 16, 17]), (8, [0, 15, 16, 17]), (9, [0, 15, 16, 17]), (10, []), (11, [2])],
  [(0, [0, 1, 2]), (1, [0, 1, 2, 7]), (2, [0, 2, 7, 8]), (3, [0, 2, 7, 8, 19]), (4, [0, 2, 7, 8]), (5, [0, 2, 7, 8, 9]), (6, [0, 2, 7, 8, 30]), (7, [0, 2, 8, 11]), (8, [0, 2, 8, 11, 35]), (9, [6]), (10, [0, 2, 7, 8]), (11, [0, 38]), (12, [6]), (13, [6])],
  [(0, [0, 1]), (1, [0, 1, 9]), (2, [4, 5]), (3, [4, 5])],
  [(0, [0]), (1, [0, 3]), (2, [3]), (3, [2])],
  [(0, [0, 1]), (1, [0, 1, 10]), (2, [4]), (3, [0, 1, 5]), (4, [0, 1, 5, 14]), (5, [0, 1, 5]), (6, [0, 1, 5, 25]), (7, [4]), (8, [4])],
  [(0, [0]), (1, [2])],
  [(0, [0, 1, 5]), (1, [])],
  [(0, [0, 1, 2, 3, 12]), (1, [0, 1, 2, 3, 16, 17, 18]), (2, [0, 1, 2, 3, 16, 17, 18, 19]), (3, [0, 1, 2, 3, 8, 9, 16, 17, 18]), (4, [0, 1, 2, 3, 8, 9, 16, 17, 18, 23]), (5, [0, 1, 2, 3, 9, 10, 16, 17, 18]), (6, [0, 1, 2, 3, 16, 17, 18]), (7, [0, 1, 2, 3, 9, 16, 17, 18, 43]), (8, [0, 1, 2, 3, 16, 17, 18]), (9, [0, 1, 2, 3, 16, 17, 18]), (10, [])],
  [(0, [0]), (1, [2])],
  [(0, [0, 1]), (1, [1, 7, 8]), (2, [1, 7, 8, 9]), (3, [1, 7, 8, 9, 26]), (4, [1, 7, 8, 9]), (5, [1, 7, 8, 9, 10]), (6, [1, 7, 8, 9, 10, 36]), (7, [1, 7, 8, 9, 10, 11, 12]), (8, [1, 7, 8, 9, 10, 11, 12, 13]), (9, [1, 7, 8, 9, 10, 11, 12, 13, 42]), (10, [1, 7, 8, 9, 10, 11, 12, 13, 42, 43]), (11, [1, 7, 8, 9, 11, 12, 13]), (12, [1, 7, 8, 9, 10, 11, 12, 13, 42, 56]), (13, [1, 7, 8, 9, 11, 12, 13]), (14, [1, 7, 8, 9, 10, 11, 12, 13, 42, 62]), (15, [1, 7, 8, 9, 10, 11, 12, 13]), (16, [1, 7, 8, 9, 11, 12, 13]), (17, [1, 7, 8, 9, 10, 11, 12, 13, 80]), (18, [1, 7, 8, 9, 10, 11, 12, 13]), (19, [1, 7, 8, 9, 10, 11, 12, 13]), (20, [1, 7, 8, 9, 11, 12, 13, 93]), (21, [1, 7, 8, 9, 11, 12, 13]), (22, [1, 7, 8, 9, 11, 12, 13, 14]), (23, [1, 7, 8, 9, 11, 12, 13, 14, 100]), (24, [1, 7, 8, 9, 11, 12, 13, 14]), (25, [1, 7, 8, 9, 11, 12, 13, 14]), (26, [1, 7, 8, 9, 121]), (27, [4, 5, 6]), (28, [4, 5, 6])],
  [(0, [0, 1, 2, 3]), (1, [0, 1, 2, 3, 10]), (2, [0, 1, 2, 3, 10, 27]), (3, [0, 1, 2, 3, 10, 11]), (4, [0, 1, 2, 3, 10, 11, 12]), (5, [0, 1, 2, 3, 10, 11, 12, 13]), (6, [0, 1, 2, 3, 10, 12, 13, 54]), (7, [0, 1, 2, 3, 10, 12, 13, 14]), (8, [0, 1, 2, 3, 10, 12, 13, 14, 15]), (9, [0, 1, 2, 3, 10, 12, 13, 14, 15, 57]), (10, [0, 1, 2, 3, 10, 12, 13, 14, 15]), (11, [0, 1, 2, 3, 10, 12, 13, 14, 15]), (12, [0, 1, 2, 3, 10, 13, 14]), (13, [0, 1, 2, 3, 10, 13, 14, 16]), (14, [0, 1, 2, 3, 10, 13, 14, 16, 17]), (15, [0, 1, 2, 3, 10, 13, 14, 16, 17, 18]), (16, [0, 1, 2, 3, 10, 13, 14, 16, 17, 18, 75]), (17, [0, 1, 2, 3, 10, 13, 14, 16, 17, 18]), (18, [0, 1, 2, 3, 10, 13, 14, 16, 17, 18]), (19, [0, 1, 2, 3, 10, 13, 14, 92]), (20, [0, 1, 2, 3, 10, 13]), (21, [0, 1, 2, 3, 10]), (22, [8, 9])],
  [(0, [0, 1, 2]), (1, [0, 1, 2, 10]), (2, [0, 1, 2]), (3, [0, 1, 2, 7]), (4, [0, 1, 2, 7, 15]), (5, [0, 1, 2, 7]), (6, [0, 1, 2, 7, 23]), (7, [0, 1, 2, 8]), (8, [0, 1, 2, 8, 28]), (9, [6]), (10, [0, 1, 2, 7]), (11, [0, 30]), (12, [6]), (13, [6])],
  [(0, [0, 1]), (1, [0, 1, 17]), (2, [4]), (3, [0, 1, 5]), (4, [0, 1, 5, 24]), (5, [0, 1, 5]), (6, [0, 1, 5, 6, 7]), (7, [0, 1, 5, 6, 7, 8, 9]), (8, [0, 1, 5, 64]), (9, [4]), (10, [4])],
  [(0, [0]), (1, [0, 14]), (2, [2, 3, 4]), (3, [0, 5]), (4, [0, 5, 18]), (5, [0, 6]), (6, [0, 6, 22]), (7, [2, 3, 4]), (8, [0, 5]), (9, [0, 5, 7, 8]), (10, [0, 5, 8, 9, 10]), (11, [0, 5, 9, 10, 11]), (12, [0, 5, 9, 10, 11, 43]), (13, [2, 3, 4]), (14, [2, 3, 4])],
  [(0, [0, 1]), (1, [1, 5]), (2, [1, 6]), (3, [1, 6, 7]), (4, [1, 6, 7, 31]), (5, [1, 6, 7]), (6, [1, 6, 7, 8]), (7, [1, 6, 7, 8, 39]), (8, [1, 6, 7, 8]), (9, [1, 6, 7]), (10, [4])],
  [(0, [0, 1]), (1, [0, 1, 5]), (2, [0, 1, 5, 13]), (3, [4]), (4, [0, 1, 7]), (5, [0, 8, 9]), (6, [0, 8, 9, 46]), (7, [0, 9]), (8, [4])],
  [(0, [0]), (1, [0, 6]), (2, [2]), (3, [0, 3]), (4, [2])],
  [(0, [0, 1]), (1, [0, 1, 5]), (2, [0, 1, 5, 14]), (3, [4]), (4, [0, 1, 6]), (5, [0, 1, 6, 7, 8]), (6, [0, 1, 6, 7, 8, 30]), (7, [4]), (8, [0, 1, 6, 7, 8, 34]), (9, [4]), (10, [0, 1, 6, 7, 8, 9]), (11, [0, 1, 6, 7, 8, 9, 54]), (12, [4]), (13, [0, 6, 9, 10]), (14, [0, 6, 9, 10, 71]), (15, [4]), (16, [0, 6, 9, 10]), (17, [0, 6, 9, 10, 82]), (18, [0, 9]), (19, [4])],
  [(0, []), (1, [1]), (2, [1, 2, 4]), (3, [1, 2, 4, 5]), (4, [2, 4, 5, 7, 8]), (5, [0])],
  [(0, [0]), (1, [0, 4]), (2, [2]), (3, [2])],
  [(0, [0, 1]), (1, [0, 1, 6, 7]), (2, [0, 1, 6, 7, 8]), (3, [0, 1, 6, 7, 8, 24]), (4, [0, 1, 6, 7, 8]), (5, [0, 1, 6, 7, 8, 36]), (6, [4, 5]), (7, [4, 5])],
  [(0, [0]), (1, [0, 6]), (2, [0]), (3, [0, 8]), (4, [0]), (5, [0, 3]), (6, [0, 3, 4]), (7, [0, 3, 4, 13]), (8, [0, 3, 4]), (9, [0, 3, 4]), (10, [2])],
  [(0, [0]), (1, [0, 23]), (2, [2, 3, 4]), (3, [0, 5]), (4, [0, 5, 6]), (5, [0, 5, 6, 25]), (6, [0, 5, 6]), (7, [0, 5, 6, 7]), (8, [0, 5, 6, 7, 56]), (9, [0, 5, 6]), (10, [0, 5, 59]), (11, [0, 5]), (12, [0, 5, 8, 9]), (13, [0, 5, 10]), (14, [0, 5, 10, 70]), (15, [2, 3, 4]), (16, [0, 5, 11]), (17, [0, 5, 11, 76]), (18, [2, 3, 4]), (19, [0, 5, 12]), (20, [0, 5, 12, 81]), (21, [2, 3, 4]), (22, [0, 5, 13, 14]), (23, [0, 5, 14, 15, 16]), (24, [0, 5, 15, 16, 17]), (25, [0, 5, 15, 16, 17, 102]), (26, [2, 3, 4]), (27, [2, 3, 4])],
  [(0, [0, 1]), (1, [0, 1, 12]), (2, [4]), (3, [0, 1, 6]), (4, [0, 7, 8]), (5, [0, 7, 8, 44]), (6, [0, 8]), (7, [8]), (8, [4])],
  [(0, [0, 1]), (1, [0, 1, 13]), (2, [4]), (3, [0, 1, 5]), (4, [0, 1, 5, 6, 7]), (5, [0, 1, 5, 6, 7, 30]), (6, [4]), (7, [0, 1, 5, 6, 7, 41]), (8, [4]), (9, [0, 1, 5, 6, 7, 8]), (10, [0, 1, 5, 6, 7, 8, 9]), (11, [0, 1, 5, 6, 7, 8, 9, 50]), (12, [0, 5, 8, 9]), (13, [0, 5, 8, 9, 64]), (14, [0, 5, 8, 9]), (15, [0, 5, 8, 9, 75]), (16, [0, 5, 8, 9]), (17, [0, 5, 8, 9, 82]), (18, [0, 8]), (19, [8]), (20, [4])],
  [(0, [0, 1, 2, 3, 11]), (1, [0, 1, 2, 3]), (2, [0, 1, 2, 3, 13]), (3, [0, 1, 2, 3]), (4, [0, 1, 2, 3, 8]), (5, [0, 1, 2, 3, 8, 20]), (6, [0, 1, 2, 3, 8]), (7, [0, 1, 2, 3, 8, 9]), (8, [0, 1, 2, 3, 8, 9, 32]), (9, [0, 1, 2, 3, 8]), (10, [0, 1, 2, 3, 8, 9, 63]), (11, [0, 1, 2, 3, 8]), (12, [])],
  [(0, [0, 1]), (1, [0, 1, 17]), (2, [4]), (3, [0, 1, 5]), (4, [0, 1, 5, 24]), (5, [0, 1, 5]), (6, [0, 1, 5, 6, 7]), (7, [0, 1, 5, 6, 7, 8, 9]), (8, [0, 1, 5, 64]), (9, [4]), (10, [4])],
  [(0, [0]), (1, [2])],
  [(0, [0]), (1, [0, 4]), (2, [2]), (3, [2])],
  [(0, [0, 1]), (1, [5]), (2, [4])],
  [(0, [0, 1, 2, 3]), (1, [0, 1, 2, 3, 10, 11]), (2, [0, 1, 2, 3, 10, 46]), (3, [8, 9]), (4, [0, 1, 2, 3, 10, 12]), (5, [0, 1, 3, 10, 12, 63]), (6, [8, 9]), (7, [0, 1, 3, 10, 12, 13]), (8, [0, 1, 3, 10, 12, 13, 14]), (9, [0, 1, 3, 10, 12, 13, 14, 67]), (10, [0, 1, 3, 10, 12, 13, 14]), (11, [0, 1, 3, 10, 12, 13, 14, 15]), (12, [0, 1, 3, 10, 12, 13, 14]), (13, [3, 10, 12, 13, 17]), (14, [3, 10, 13, 17]), (15, [8, 9])],
  [(0, [0, 1]), (1, [4])],
  [(0, [0]), (1, [0, 7]), (2, [0]), (3, [0, 15]), (4, [0]), (5, [2])],
  [(0, [0]), (1, [2])],
  [(0, [0]), (1, [0, 4]), (2, [2]), (3, [2])],
  [(0, [0]), (1, [0, 7]), (2, [2]), (3, [0, 3]), (4, [3, 11, 12, 13]), (5, [3, 11, 12, 13, 14]), (6, [3, 5, 11, 12, 13]), (7, [3, 11, 12, 13]), (8, [3, 11, 12, 13]), (9, [2])],
  [(0, [0, 1, 2]), (1, [0, 1, 2, 22]), (2, [6]), (3, [0, 1, 2, 33]), (4, []), (5, [6]), (6, [0, 1, 2, 41]), (7, [0, 1, 2]), (8, []), (9, [6])],
  [(0, [0]), (1, [0, 14]), (2, []), (3, [2]), (4, [0, 22]), (5, [0]), (6, [0, 3]), (7, [0, 3, 36]), (8, [0, 3]), (9, [0, 3]), (10, []), (11, [2])],
  [(0, [0, 1]), (1, [0, 1, 11]), (2, [4]), (3, [4])],
  [(0, [0, 1]), (1, [0, 1, 17]), (2, [4]), (3, [0, 1, 5]), (4, [0, 1, 5, 6]), (5, [0, 1, 5, 6, 32]), (6, [0, 1, 5, 6]), (7, [0, 1, 5, 6, 44]), (8, [0, 1, 5, 6]), (9, [4])],
  [(0, [0]), (1, [2])],
  [(0, [0]), (1, [0, 3]), (2, [0, 3, 9]), (3, [0, 3, 9, 10]), (4, [0, 3, 4, 9]), (5, [0, 3, 4, 5, 9]), (6, [0, 3, 4, 5, 7, 9]), (7, [0, 3, 5, 7, 9, 32]), (8, [0, 3, 5, 7, 8, 9]), (9, [0, 3, 7, 9, 49]), (10, [0, 3, 9]), (11, [0, 3, 9]), (12, [2])],
  [(0, [0]), (1, [0, 3, 4]), (2, [0, 5]), (3, [0, 5, 16]), (4, [2]), (5, [2])],
  [(0, [0, 1]), (1, [1, 6]), (2, [4, 6]), (3, [4, 5])],
  [(0, [0]), (1, [2])],
  [(0, [0]), (1, [0, 3]), (2, [0, 3, 4]), (3, [0, 3, 4, 9]), (4, [0, 3, 4]), (5, [0, 3, 4]), (6, [0, 3, 4, 5]), (7, [0, 3, 4, 5, 20]), (8, [0, 3, 4, 5]), (9, [0, 3, 4, 5, 25]), (10, [0, 3, 4, 5]), (11, [0, 3, 4, 5]), (12, [2])],
  [(0, [0]), (1, [0, 3]), (2, [2]), (3, [6]), (4, [2]), (5, [2])],
  [(0, [0, 1]), (1, [1]), (2, [4])],
  [(0, [0, 1]), (1, [0, 5]), (2, [0, 5, 13]), (3, [4]), (4, [4])],
  [(0, [0]), (1, [3]), (2, [2])],
  [(0, [0, 1]), (1, [1, 6]), (2, [6, 16]), (3, [4, 5]), (4, [4, 5])],
  [(0, [0, 1, 2, 3, 4]), (1, [0, 1, 2, 3, 4, 32]), (2, [10, 11]), (3, [0, 1, 2, 12]), (4, [0, 1, 12, 50]), (5, [10, 11]), (6, [0, 1, 12, 13]), (7, [0, 1, 12, 13, 54]), (8, [0, 1, 12, 13]), (9, [0, 1, 12, 13, 14]), (10, [0, 1, 12, 13, 14, 67]), (11, [10, 11]), (12, [0, 1, 12, 15]), (13, [0, 1, 12, 15, 72]), (14, [10, 11]), (15, [0, 1, 12, 16]), (16, [0, 1, 12, 16, 81]), (17, [10, 11]), (18, [1, 12, 17]), (19, [1, 12, 17, 86]), (20, [10, 11]), (21, [10, 11])],
  [(0, [0, 1]), (1, [4])],
  [(0, [0]), (1, [0, 3]), (2, [3, 7, 8, 9]), (3, [3, 7, 8, 9, 10]), (4, [3, 5, 7, 8, 9]), (5, [3, 7, 8, 9]), (6, [3, 7, 8, 9, 17]), (7, [3, 7, 8, 9, 17, 18]), (8, [3, 6, 7, 8, 9, 17]), (9, [3, 7, 8, 9, 17]), (10, [3, 7, 8, 9, 17]), (11, [3, 7, 8, 9]), (12, [2])],
  [(0, [0]), (1, [0, 3]), (2, [3, 10, 11, 12]), (3, [3, 10, 11, 12, 13]), (4, [3, 5, 10, 11, 12]), (5, [3, 10, 11, 12]), (6, [3, 10, 11, 12]), (7, [2])],
  [(0, [0, 1]), (1, [4])],
  [(0, [0, 1]), (1, [0, 1, 9]), (2, [4]), (3, [0, 1, 15]), (4, [4]), (5, [0, 1, 5]), (6, [0, 1, 5, 6]), (7, [0, 1, 5, 6, 25]), (8, [4]), (9, [0, 1, 5, 6]), (10, [0, 1, 5])],
  [(0, [0]), (1, [3]), (2, [2])],
  [(0, [0]), (1, [5, 6, 7]), (2, [5, 6, 7, 8]), (3, [4, 5, 6, 7]), (4, [5, 6, 7, 12]), (5, [2]), (6, [5, 6, 7]), (7, [2])],
  [(0, [0]), (1, [0, 3]), (2, [0, 3, 4]), (3, [0, 3, 4, 10]), (4, [0, 3, 4]), (5, [0, 3, 4, 5]), (6, [0, 3, 4, 18]), (7, [2]), (8, [2])],
  [],
  [(0, [0, 1]), (1, [0, 1, 5]), (2, [0, 1, 5, 22]), (3, [4]), (4, [0, 1, 5, 25]), (5, [4]), (6, [0, 1, 5, 33]), (7, [40]), (8, [4]), (9, [4]), (10, [0, 1, 5, 41]), (11, [4]), (12, [0, 1, 5, 46]), (13, [0, 1, 5, 52]), (14, [4]), (15, [0, 1, 5, 6]), (16, [0, 1, 5, 6, 7]), (17, [0, 1, 5, 6, 7, 8]), (18, [0, 1, 5, 6, 7, 8, 9]), (19, [0, 1, 5, 6, 7, 8, 9, 10]), (20, [0, 1, 5, 6, 7, 8, 9, 10, 69]), (21, [0, 1, 5, 6, 7, 8, 9, 10, 75]), (22, [0, 1, 5, 6, 7, 8, 9, 10, 11]), (23, [0, 1, 5, 6, 7, 8, 9, 10, 11, 84]), (24, [4]), (25, [0, 1, 5, 6, 7, 8, 9, 10]), (26, [0, 1, 5, 6, 7, 8, 9, 10, 105]), (27, [4]), (28, [0, 1, 5, 6, 7, 8, 9, 10]), (29, [0, 1, 5, 6, 7, 8, 9, 10]), (30, [0, 1, 5, 6, 7, 8, 9, 10, 114]), (31, [8, 12]), (32, [8, 12, 121]), (33, [4]), (34, [4]), (35, [4]), (36, [0, 1, 5, 13]), (37, [0, 1, 5, 13, 14]), (38, [0, 1, 5, 13, 14, 15]), (39, [0, 1, 5, 13, 14, 15, 16]), (40, [0, 1, 5, 13, 14, 15, 16, 17]), (41, [0, 1, 5, 13, 14, 15, 16, 17, 138]), (42, [0, 1, 5, 13, 14, 15, 16, 17, 144]), (43, [0, 1, 5, 13, 14, 15, 16, 17, 18]), (44, [0, 1, 5, 13, 14, 15, 16, 17, 18, 153]), (45, [0, 1, 5, 13, 14, 15, 16, 17]), (46, [0, 1, 5, 13, 14, 15, 16, 17, 174]), (47, [4]), (48, [0, 1, 5, 13, 14, 15, 16, 17]), (49, [0, 1, 5, 13, 14, 15, 16, 17]), (50, [0, 1, 5, 13, 14, 15, 16, 17, 189]), (51, [15, 19]), (52, [15, 19, 196]), (53, [4]), (54, [4]), (55, [4])],
  [(0, [0, 2]), (1, [2, 4]), (2, [2, 4, 6]), (3, [2, 4]), (4, [2])],
  [(0, [0, 1]), (1, [4])],
  [],
  [(0, [0]), (1, [2])],
  [(0, [0, 1]), (1, [0, 1, 5, 6]), (2, [0, 1, 5, 6, 7]), (3, [0, 1, 5, 6, 7, 8]), (4, [0, 1, 5, 6, 7, 8, 9]), (5, [0, 1, 5, 6, 7, 8, 9, 20]), (6, [0, 1, 5, 6, 7, 8, 9]), (7, [0, 1, 5, 6, 7, 8, 9]), (8, [0, 1, 5, 6, 7, 8, 42]), (9, [4]), (10, [0, 1, 5, 6, 7, 8, 10]), (11, [0, 1, 5, 6, 7, 8, 10, 47]), (12, [0, 1, 5, 6, 7, 8, 10]), (13, [0, 1, 5, 6, 7, 8, 10]), (14, [0, 1, 5, 6, 7, 8, 10]), (15, [0, 1, 5, 6, 7, 8, 10]), (16, [0, 1, 5, 6, 7, 8, 10, 84]), (17, [4]), (18, [4])],
  [],
  [(0, [0]), (1, [0, 4]), (2, [0, 4, 5]), (3, [0, 4, 5, 12]), (4, [0, 4, 5]), (5, [0, 4, 5]), (6, [0, 4, 6, 7]), (7, [4, 6, 7, 8]), (8, [4, 6, 7, 8, 26]), (9, [4, 6, 7, 8]), (10, [4, 6, 7, 8, 31]), (11, [4, 6, 7, 8]), (12, [4, 6, 7, 8]), (13, [2, 3])]]
def C0 : Cfg := ⟨tab, annOfL annL, keepOfL keepL, fun g => g == 78⟩
theorem cnt_ok : CntOk Try.prog C0 := by
  refine ⟨fun g hg => ?_⟩
  have hg' : g = 78 := by simpa [C0] using hg
  subst hg'
  exact ⟨Try.f78, by kernel_rfl, by kernel_rfl, by kernel_rfl, by kernel_rfl, by kernel_rfl⟩
theorem e78 : E0 78 = none := by kernel_rfl
theorem call_ok (k : Nat) : CallOk Try.prog tab (exFn C0 E0 k) := exFn_sound tab_fits Try.checked.mixed rfl E0_ok cnt_ok k
end Go.Ax

/- Facts of the types of the table. Printed by a program of mine (ty.py). -/
namespace Go.Ax
open Go
@[simp] theorem td0 : Tab.d tab 0 = .tuple := by kernel_rfl
@[simp] theorem tu0 : Tab.und tab 0 = 0 := by kernel_rfl
@[simp] theorem ts0 : Tab.size tab 0 = 1 := by kernel_rfl
@[simp] theorem tb0 : Tab.bytes tab 0 = 0 := by kernel_rfl
@[simp] theorem td1 : Tab.d tab 1 = .func := by kernel_rfl
@[simp] theorem tu1 : Tab.und tab 1 = 1 := by kernel_rfl
@[simp] theorem ts1 : Tab.size tab 1 = 1 := by kernel_rfl
@[simp] theorem tb1 : Tab.bytes tab 1 = 8 := by kernel_rfl
@[simp] theorem tz1 : zero tab 1 = some .nilf := by kernel_rfl
@[simp] theorem td2 : Tab.d tab 2 = (.int .i64) := by kernel_rfl
@[simp] theorem tu2 : Tab.und tab 2 = 2 := by kernel_rfl
@[simp] theorem ts2 : Tab.size tab 2 = 1 := by kernel_rfl
@[simp] theorem tb2 : Tab.bytes tab 2 = 8 := by kernel_rfl
@[simp] theorem tz2 : zero tab 2 = some (.int .i64 0) := by kernel_rfl
@[simp] theorem td3 : Tab.d tab 3 = (.int .i64) := by kernel_rfl
@[simp] theorem tu3 : Tab.und tab 3 = 3 := by kernel_rfl
@[simp] theorem ts3 : Tab.size tab 3 = 1 := by kernel_rfl
@[simp] theorem tb3 : Tab.bytes tab 3 = 8 := by kernel_rfl
@[simp] theorem tz3 : zero tab 3 = some (.int .i64 0) := by kernel_rfl
@[simp] theorem td4 : Tab.d tab 4 = .bool := by kernel_rfl
@[simp] theorem tu4 : Tab.und tab 4 = 4 := by kernel_rfl
@[simp] theorem ts4 : Tab.size tab 4 = 1 := by kernel_rfl
@[simp] theorem tb4 : Tab.bytes tab 4 = 1 := by kernel_rfl
@[simp] theorem tz4 : zero tab 4 = some (.bool false) := by kernel_rfl
@[simp] theorem td5 : Tab.d tab 5 = (.int .u8) := by kernel_rfl
@[simp] theorem tu5 : Tab.und tab 5 = 5 := by kernel_rfl
@[simp] theorem ts5 : Tab.size tab 5 = 1 := by kernel_rfl
@[simp] theorem tb5 : Tab.bytes tab 5 = 1 := by kernel_rfl
@[simp] theorem tz5 : zero tab 5 = some (.int .u8 0) := by kernel_rfl
@[simp] theorem td6 : Tab.d tab 6 = (.int .u8) := by kernel_rfl
@[simp] theorem tu6 : Tab.und tab 6 = 5 := by kernel_rfl
@[simp] theorem ts6 : Tab.size tab 6 = 1 := by kernel_rfl
@[simp] theorem tb6 : Tab.bytes tab 6 = 1 := by kernel_rfl
@[simp] theorem tz6 : zero tab 6 = some (.int .u8 0) := by kernel_rfl
@[simp] theorem td7 : Tab.d tab 7 = (.struct [2, 3, 4, 6]) := by kernel_rfl
@[simp] theorem tu7 : Tab.und tab 7 = 7 := by kernel_rfl
@[simp] theorem ts7 : Tab.size tab 7 = 4 := by kernel_rfl
@[simp] theorem tb7 : Tab.bytes tab 7 = 24 := by kernel_rfl
@[simp] theorem tz7 : zero tab 7 = some (.agg 7 [(.int .i64 0), (.int .i64 0), (.bool false), (.int .u8 0)]) := by kernel_rfl
@[simp] theorem td8 : Tab.d tab 8 = (.struct [2, 3, 4, 6]) := by kernel_rfl
@[simp] theorem tu8 : Tab.und tab 8 = 7 := by kernel_rfl
@[simp] theorem ts8 : Tab.size tab 8 = 4 := by kernel_rfl
@[simp] theorem tb8 : Tab.bytes tab 8 = 24 := by kernel_rfl
@[simp] theorem tz8 : zero tab 8 = some (.agg 7 [(.int .i64 0), (.int .i64 0), (.bool false), (.int .u8 0)]) := by kernel_rfl
@[simp] theorem td9 : Tab.d tab 9 = .str := by kernel_rfl
@[simp] theorem tu9 : Tab.und tab 9 = 9 := by kernel_rfl
@[simp] theorem ts9 : Tab.size tab 9 = 1 := by kernel_rfl
@[simp] theorem tb9 : Tab.bytes tab 9 = 16 := by kernel_rfl
@[simp] theorem tz9 : zero tab 9 = some (.str .empty) := by kernel_rfl
@[simp] theorem td10 : Tab.d tab 10 = .str := by kernel_rfl
@[simp] theorem tu10 : Tab.und tab 10 = 9 := by kernel_rfl
@[simp] theorem ts10 : Tab.size tab 10 = 1 := by kernel_rfl
@[simp] theorem tb10 : Tab.bytes tab 10 = 16 := by kernel_rfl
@[simp] theorem tz10 : zero tab 10 = some (.str .empty) := by kernel_rfl
@[simp] theorem td11 : Tab.d tab 11 = .str := by kernel_rfl
@[simp] theorem tu11 : Tab.und tab 11 = 9 := by kernel_rfl
@[simp] theorem ts11 : Tab.size tab 11 = 1 := by kernel_rfl
@[simp] theorem tb11 : Tab.bytes tab 11 = 16 := by kernel_rfl
@[simp] theorem tz11 : zero tab 11 = some (.str .empty) := by kernel_rfl
@[simp] theorem td12 : Tab.d tab 12 = (.int .u64) := by kernel_rfl
@[simp] theorem tu12 : Tab.und tab 12 = 12 := by kernel_rfl
@[simp] theorem ts12 : Tab.size tab 12 = 1 := by kernel_rfl
@[simp] theorem tb12 : Tab.bytes tab 12 = 8 := by kernel_rfl
@[simp] theorem tz12 : zero tab 12 = some (.int .u64 0) := by kernel_rfl
@[simp] theorem td13 : Tab.d tab 13 = (.struct [9, 12]) := by kernel_rfl
@[simp] theorem tu13 : Tab.und tab 13 = 13 := by kernel_rfl
@[simp] theorem ts13 : Tab.size tab 13 = 2 := by kernel_rfl
@[simp] theorem tb13 : Tab.bytes tab 13 = 24 := by kernel_rfl
@[simp] theorem tz13 : zero tab 13 = some (.agg 13 [(.str .empty), (.int .u64 0)]) := by kernel_rfl
@[simp] theorem td14 : Tab.d tab 14 = (.struct [9, 12]) := by kernel_rfl
@[simp] theorem tu14 : Tab.und tab 14 = 13 := by kernel_rfl
@[simp] theorem ts14 : Tab.size tab 14 = 2 := by kernel_rfl
@[simp] theorem tb14 : Tab.bytes tab 14 = 24 := by kernel_rfl
@[simp] theorem tz14 : zero tab 14 = some (.agg 13 [(.str .empty), (.int .u64 0)]) := by kernel_rfl
@[simp] theorem td15 : Tab.d tab 15 = (.ptr 121) := by kernel_rfl
@[simp] theorem tu15 : Tab.und tab 15 = 15 := by kernel_rfl
@[simp] theorem ts15 : Tab.size tab 15 = 1 := by kernel_rfl
@[simp] theorem tb15 : Tab.bytes tab 15 = 8 := by kernel_rfl
@[simp] theorem tz15 : zero tab 15 = some .nilp := by kernel_rfl
@[simp] theorem td16 : Tab.d tab 16 = (.ptr 124) := by kernel_rfl
@[simp] theorem tu16 : Tab.und tab 16 = 16 := by kernel_rfl
@[simp] theorem ts16 : Tab.size tab 16 = 1 := by kernel_rfl
@[simp] theorem tb16 : Tab.bytes tab 16 = 8 := by kernel_rfl
@[simp] theorem tz16 : zero tab 16 = some .nilp := by kernel_rfl
@[simp] theorem td17 : Tab.d tab 17 = (.ptr 132) := by kernel_rfl
@[simp] theorem tu17 : Tab.und tab 17 = 17 := by kernel_rfl
@[simp] theorem ts17 : Tab.size tab 17 = 1 := by kernel_rfl
@[simp] theorem tb17 : Tab.bytes tab 17 = 8 := by kernel_rfl
@[simp] theorem tz17 : zero tab 17 = some .nilp := by kernel_rfl
@[simp] theorem td18 : Tab.d tab 18 = (.struct [17]) := by kernel_rfl
@[simp] theorem tu18 : Tab.und tab 18 = 18 := by kernel_rfl
@[simp] theorem ts18 : Tab.size tab 18 = 1 := by kernel_rfl
@[simp] theorem tb18 : Tab.bytes tab 18 = 8 := by kernel_rfl
@[simp] theorem tz18 : zero tab 18 = some (.agg 18 [.nilp]) := by kernel_rfl
@[simp] theorem td19 : Tab.d tab 19 = (.struct [17]) := by kernel_rfl
@[simp] theorem tu19 : Tab.und tab 19 = 18 := by kernel_rfl
@[simp] theorem ts19 : Tab.size tab 19 = 1 := by kernel_rfl
@[simp] theorem tb19 : Tab.bytes tab 19 = 8 := by kernel_rfl
@[simp] theorem tz19 : zero tab 19 = some (.agg 18 [.nilp]) := by kernel_rfl
@[simp] theorem td20 : Tab.d tab 20 = .iface := by kernel_rfl
@[simp] theorem tu20 : Tab.und tab 20 = 20 := by kernel_rfl
@[simp] theorem ts20 : Tab.size tab 20 = 1 := by kernel_rfl
@[simp] theorem tb20 : Tab.bytes tab 20 = 16 := by kernel_rfl
@[simp] theorem tz20 : zero tab 20 = some .nili := by kernel_rfl
@[simp] theorem td21 : Tab.d tab 21 = (.int .i32) := by kernel_rfl
@[simp] theorem tu21 : Tab.und tab 21 = 21 := by kernel_rfl
@[simp] theorem ts21 : Tab.size tab 21 = 1 := by kernel_rfl
@[simp] theorem tb21 : Tab.bytes tab 21 = 4 := by kernel_rfl
@[simp] theorem tz21 : zero tab 21 = some (.int .i32 0) := by kernel_rfl
@[simp] theorem td22 : Tab.d tab 22 = (.slice 5) := by kernel_rfl
@[simp] theorem tu22 : Tab.und tab 22 = 22 := by kernel_rfl
@[simp] theorem ts22 : Tab.size tab 22 = 1 := by kernel_rfl
@[simp] theorem tb22 : Tab.bytes tab 22 = 24 := by kernel_rfl
@[simp] theorem tz22 : zero tab 22 = some .nils := by kernel_rfl
@[simp] theorem td23 : Tab.d tab 23 = (.int .u16) := by kernel_rfl
@[simp] theorem tu23 : Tab.und tab 23 = 23 := by kernel_rfl
@[simp] theorem ts23 : Tab.size tab 23 = 1 := by kernel_rfl
@[simp] theorem tb23 : Tab.bytes tab 23 = 2 := by kernel_rfl
@[simp] theorem tz23 : zero tab 23 = some (.int .u16 0) := by kernel_rfl
@[simp] theorem td24 : Tab.d tab 24 = .func := by kernel_rfl
@[simp] theorem tu24 : Tab.und tab 24 = 24 := by kernel_rfl
@[simp] theorem ts24 : Tab.size tab 24 = 1 := by kernel_rfl
@[simp] theorem tb24 : Tab.bytes tab 24 = 8 := by kernel_rfl
@[simp] theorem tz24 : zero tab 24 = some .nilf := by kernel_rfl
@[simp] theorem td25 : Tab.d tab 25 = (.ptr 84) := by kernel_rfl
@[simp] theorem tu25 : Tab.und tab 25 = 25 := by kernel_rfl
@[simp] theorem ts25 : Tab.size tab 25 = 1 := by kernel_rfl
@[simp] theorem tb25 : Tab.bytes tab 25 = 8 := by kernel_rfl
@[simp] theorem tz25 : zero tab 25 = some .nilp := by kernel_rfl
@[simp] theorem td26 : Tab.d tab 26 = .func := by kernel_rfl
@[simp] theorem tu26 : Tab.und tab 26 = 26 := by kernel_rfl
@[simp] theorem ts26 : Tab.size tab 26 = 1 := by kernel_rfl
@[simp] theorem tb26 : Tab.bytes tab 26 = 8 := by kernel_rfl
@[simp] theorem tz26 : zero tab 26 = some .nilf := by kernel_rfl
@[simp] theorem td27 : Tab.d tab 27 = (.int .i64) := by kernel_rfl
@[simp] theorem tu27 : Tab.und tab 27 = 3 := by kernel_rfl
@[simp] theorem ts27 : Tab.size tab 27 = 1 := by kernel_rfl
@[simp] theorem tb27 : Tab.bytes tab 27 = 8 := by kernel_rfl
@[simp] theorem tz27 : zero tab 27 = some (.int .i64 0) := by kernel_rfl
@[simp] theorem td28 : Tab.d tab 28 = .tuple := by kernel_rfl
@[simp] theorem tu28 : Tab.und tab 28 = 28 := by kernel_rfl
@[simp] theorem ts28 : Tab.size tab 28 = 1 := by kernel_rfl
@[simp] theorem tb28 : Tab.bytes tab 28 = 0 := by kernel_rfl
@[simp] theorem td29 : Tab.d tab 29 = .func := by kernel_rfl
@[simp] theorem tu29 : Tab.und tab 29 = 29 := by kernel_rfl
@[simp] theorem ts29 : Tab.size tab 29 = 1 := by kernel_rfl
@[simp] theorem tb29 : Tab.bytes tab 29 = 8 := by kernel_rfl
@[simp] theorem tz29 : zero tab 29 = some .nilf := by kernel_rfl
@[simp] theorem td30 : Tab.d tab 30 = (.slice 22) := by kernel_rfl
@[simp] theorem tu30 : Tab.und tab 30 = 30 := by kernel_rfl
@[simp] theorem ts30 : Tab.size tab 30 = 1 := by kernel_rfl
@[simp] theorem tb30 : Tab.bytes tab 30 = 24 := by kernel_rfl
@[simp] theorem tz30 : zero tab 30 = some .nils := by kernel_rfl
@[simp] theorem td31 : Tab.d tab 31 = .tuple := by kernel_rfl
@[simp] theorem tu31 : Tab.und tab 31 = 31 := by kernel_rfl
@[simp] theorem ts31 : Tab.size tab 31 = 1 := by kernel_rfl
@[simp] theorem tb31 : Tab.bytes tab 31 = 0 := by kernel_rfl
@[simp] theorem td32 : Tab.d tab 32 = .func := by kernel_rfl
@[simp] theorem tu32 : Tab.und tab 32 = 32 := by kernel_rfl
@[simp] theorem ts32 : Tab.size tab 32 = 1 := by kernel_rfl
@[simp] theorem tb32 : Tab.bytes tab 32 = 8 := by kernel_rfl
@[simp] theorem tz32 : zero tab 32 = some .nilf := by kernel_rfl
@[simp] theorem td33 : Tab.d tab 33 = .func := by kernel_rfl
@[simp] theorem tu33 : Tab.und tab 33 = 33 := by kernel_rfl
@[simp] theorem ts33 : Tab.size tab 33 = 1 := by kernel_rfl
@[simp] theorem tb33 : Tab.bytes tab 33 = 8 := by kernel_rfl
@[simp] theorem tz33 : zero tab 33 = some .nilf := by kernel_rfl
@[simp] theorem td34 : Tab.d tab 34 = .func := by kernel_rfl
@[simp] theorem tu34 : Tab.und tab 34 = 34 := by kernel_rfl
@[simp] theorem ts34 : Tab.size tab 34 = 1 := by kernel_rfl
@[simp] theorem tb34 : Tab.bytes tab 34 = 8 := by kernel_rfl
@[simp] theorem tz34 : zero tab 34 = some .nilf := by kernel_rfl
@[simp] theorem td35 : Tab.d tab 35 = .func := by kernel_rfl
@[simp] theorem tu35 : Tab.und tab 35 = 35 := by kernel_rfl
@[simp] theorem ts35 : Tab.size tab 35 = 1 := by kernel_rfl
@[simp] theorem tb35 : Tab.bytes tab 35 = 8 := by kernel_rfl
@[simp] theorem tz35 : zero tab 35 = some .nilf := by kernel_rfl
@[simp] theorem td36 : Tab.d tab 36 = .func := by kernel_rfl
@[simp] theorem tu36 : Tab.und tab 36 = 36 := by kernel_rfl
@[simp] theorem ts36 : Tab.size tab 36 = 1 := by kernel_rfl
@[simp] theorem tb36 : Tab.bytes tab 36 = 8 := by kernel_rfl
@[simp] theorem tz36 : zero tab 36 = some .nilf := by kernel_rfl
@[simp] theorem td37 : Tab.d tab 37 = .func := by kernel_rfl
@[simp] theorem tu37 : Tab.und tab 37 = 37 := by kernel_rfl
@[simp] theorem ts37 : Tab.size tab 37 = 1 := by kernel_rfl
@[simp] theorem tb37 : Tab.bytes tab 37 = 8 := by kernel_rfl
@[simp] theorem tz37 : zero tab 37 = some .nilf := by kernel_rfl
@[simp] theorem td38 : Tab.d tab 38 = .tuple := by kernel_rfl
@[simp] theorem tu38 : Tab.und tab 38 = 38 := by kernel_rfl
@[simp] theorem ts38 : Tab.size tab 38 = 1 := by kernel_rfl
@[simp] theorem tb38 : Tab.bytes tab 38 = 0 := by kernel_rfl
@[simp] theorem td39 : Tab.d tab 39 = .func := by kernel_rfl
@[simp] theorem tu39 : Tab.und tab 39 = 39 := by kernel_rfl
@[simp] theorem ts39 : Tab.size tab 39 = 1 := by kernel_rfl
@[simp] theorem tb39 : Tab.bytes tab 39 = 8 := by kernel_rfl
@[simp] theorem tz39 : zero tab 39 = some .nilf := by kernel_rfl
@[simp] theorem td40 : Tab.d tab 40 = .func := by kernel_rfl
@[simp] theorem tu40 : Tab.und tab 40 = 40 := by kernel_rfl
@[simp] theorem ts40 : Tab.size tab 40 = 1 := by kernel_rfl
@[simp] theorem tb40 : Tab.bytes tab 40 = 8 := by kernel_rfl
@[simp] theorem tz40 : zero tab 40 = some .nilf := by kernel_rfl
@[simp] theorem td41 : Tab.d tab 41 = .func := by kernel_rfl
@[simp] theorem tu41 : Tab.und tab 41 = 41 := by kernel_rfl
@[simp] theorem ts41 : Tab.size tab 41 = 1 := by kernel_rfl
@[simp] theorem tb41 : Tab.bytes tab 41 = 8 := by kernel_rfl
@[simp] theorem tz41 : zero tab 41 = some .nilf := by kernel_rfl
@[simp] theorem td42 : Tab.d tab 42 = .func := by kernel_rfl
@[simp] theorem tu42 : Tab.und tab 42 = 42 := by kernel_rfl
@[simp] theorem ts42 : Tab.size tab 42 = 1 := by kernel_rfl
@[simp] theorem tb42 : Tab.bytes tab 42 = 8 := by kernel_rfl
@[simp] theorem tz42 : zero tab 42 = some .nilf := by kernel_rfl
@[simp] theorem td43 : Tab.d tab 43 = .func := by kernel_rfl
@[simp] theorem tu43 : Tab.und tab 43 = 43 := by kernel_rfl
@[simp] theorem ts43 : Tab.size tab 43 = 1 := by kernel_rfl
@[simp] theorem tb43 : Tab.bytes tab 43 = 8 := by kernel_rfl
@[simp] theorem tz43 : zero tab 43 = some .nilf := by kernel_rfl
@[simp] theorem td44 : Tab.d tab 44 = (.int .u64) := by kernel_rfl
@[simp] theorem tu44 : Tab.und tab 44 = 44 := by kernel_rfl
@[simp] theorem ts44 : Tab.size tab 44 = 1 := by kernel_rfl
@[simp] theorem tb44 : Tab.bytes tab 44 = 8 := by kernel_rfl
@[simp] theorem tz44 : zero tab 44 = some (.int .u64 0) := by kernel_rfl
@[simp] theorem td45 : Tab.d tab 45 = .func := by kernel_rfl
@[simp] theorem tu45 : Tab.und tab 45 = 45 := by kernel_rfl
@[simp] theorem ts45 : Tab.size tab 45 = 1 := by kernel_rfl
@[simp] theorem tb45 : Tab.bytes tab 45 = 8 := by kernel_rfl
@[simp] theorem tz45 : zero tab 45 = some .nilf := by kernel_rfl
@[simp] theorem td46 : Tab.d tab 46 = .func := by kernel_rfl
@[simp] theorem tu46 : Tab.und tab 46 = 46 := by kernel_rfl
@[simp] theorem ts46 : Tab.size tab 46 = 1 := by kernel_rfl
@[simp] theorem tb46 : Tab.bytes tab 46 = 8 := by kernel_rfl
@[simp] theorem tz46 : zero tab 46 = some .nilf := by kernel_rfl
@[simp] theorem td47 : Tab.d tab 47 = .func := by kernel_rfl
@[simp] theorem tu47 : Tab.und tab 47 = 47 := by kernel_rfl
@[simp] theorem ts47 : Tab.size tab 47 = 1 := by kernel_rfl
@[simp] theorem tb47 : Tab.bytes tab 47 = 8 := by kernel_rfl
@[simp] theorem tz47 : zero tab 47 = some .nilf := by kernel_rfl
@[simp] theorem td48 : Tab.d tab 48 = (.slice 96) := by kernel_rfl
@[simp] theorem tu48 : Tab.und tab 48 = 48 := by kernel_rfl
@[simp] theorem ts48 : Tab.size tab 48 = 1 := by kernel_rfl
@[simp] theorem tb48 : Tab.bytes tab 48 = 24 := by kernel_rfl
@[simp] theorem tz48 : zero tab 48 = some .nils := by kernel_rfl
@[simp] theorem td49 : Tab.d tab 49 = .func := by kernel_rfl
@[simp] theorem tu49 : Tab.und tab 49 = 49 := by kernel_rfl
@[simp] theorem ts49 : Tab.size tab 49 = 1 := by kernel_rfl
@[simp] theorem tb49 : Tab.bytes tab 49 = 8 := by kernel_rfl
@[simp] theorem tz49 : zero tab 49 = some .nilf := by kernel_rfl
@[simp] theorem td50 : Tab.d tab 50 = (.ptr 74) := by kernel_rfl
@[simp] theorem tu50 : Tab.und tab 50 = 50 := by kernel_rfl
@[simp] theorem ts50 : Tab.size tab 50 = 1 := by kernel_rfl
@[simp] theorem tb50 : Tab.bytes tab 50 = 8 := by kernel_rfl
@[simp] theorem tz50 : zero tab 50 = some .nilp := by kernel_rfl
@[simp] theorem td51 : Tab.d tab 51 = .tuple := by kernel_rfl
@[simp] theorem tu51 : Tab.und tab 51 = 51 := by kernel_rfl
@[simp] theorem ts51 : Tab.size tab 51 = 1 := by kernel_rfl
@[simp] theorem tb51 : Tab.bytes tab 51 = 0 := by kernel_rfl
@[simp] theorem td52 : Tab.d tab 52 = .func := by kernel_rfl
@[simp] theorem tu52 : Tab.und tab 52 = 52 := by kernel_rfl
@[simp] theorem ts52 : Tab.size tab 52 = 1 := by kernel_rfl
@[simp] theorem tb52 : Tab.bytes tab 52 = 8 := by kernel_rfl
@[simp] theorem tz52 : zero tab 52 = some .nilf := by kernel_rfl
@[simp] theorem td53 : Tab.d tab 53 = .func := by kernel_rfl
@[simp] theorem tu53 : Tab.und tab 53 = 53 := by kernel_rfl
@[simp] theorem ts53 : Tab.size tab 53 = 1 := by kernel_rfl
@[simp] theorem tb53 : Tab.bytes tab 53 = 8 := by kernel_rfl
@[simp] theorem tz53 : zero tab 53 = some .nilf := by kernel_rfl
@[simp] theorem td54 : Tab.d tab 54 = .func := by kernel_rfl
@[simp] theorem tu54 : Tab.und tab 54 = 54 := by kernel_rfl
@[simp] theorem ts54 : Tab.size tab 54 = 1 := by kernel_rfl
@[simp] theorem tb54 : Tab.bytes tab 54 = 8 := by kernel_rfl
@[simp] theorem tz54 : zero tab 54 = some .nilf := by kernel_rfl
@[simp] theorem td55 : Tab.d tab 55 = .func := by kernel_rfl
@[simp] theorem tu55 : Tab.und tab 55 = 55 := by kernel_rfl
@[simp] theorem ts55 : Tab.size tab 55 = 1 := by kernel_rfl
@[simp] theorem tb55 : Tab.bytes tab 55 = 8 := by kernel_rfl
@[simp] theorem tz55 : zero tab 55 = some .nilf := by kernel_rfl
@[simp] theorem td56 : Tab.d tab 56 = .func := by kernel_rfl
@[simp] theorem tu56 : Tab.und tab 56 = 56 := by kernel_rfl
@[simp] theorem ts56 : Tab.size tab 56 = 1 := by kernel_rfl
@[simp] theorem tb56 : Tab.bytes tab 56 = 8 := by kernel_rfl
@[simp] theorem tz56 : zero tab 56 = some .nilf := by kernel_rfl
@[simp] theorem td57 : Tab.d tab 57 = (.ptr 104) := by kernel_rfl
@[simp] theorem tu57 : Tab.und tab 57 = 57 := by kernel_rfl
@[simp] theorem ts57 : Tab.size tab 57 = 1 := by kernel_rfl
@[simp] theorem tb57 : Tab.bytes tab 57 = 8 := by kernel_rfl
@[simp] theorem tz57 : zero tab 57 = some .nilp := by kernel_rfl
@[simp] theorem td58 : Tab.d tab 58 = .tuple := by kernel_rfl
@[simp] theorem tu58 : Tab.und tab 58 = 58 := by kernel_rfl
@[simp] theorem ts58 : Tab.size tab 58 = 1 := by kernel_rfl
@[simp] theorem tb58 : Tab.bytes tab 58 = 0 := by kernel_rfl
@[simp] theorem td59 : Tab.d tab 59 = .func := by kernel_rfl
@[simp] theorem tu59 : Tab.und tab 59 = 59 := by kernel_rfl
@[simp] theorem ts59 : Tab.size tab 59 = 1 := by kernel_rfl
@[simp] theorem tb59 : Tab.bytes tab 59 = 8 := by kernel_rfl
@[simp] theorem tz59 : zero tab 59 = some .nilf := by kernel_rfl
@[simp] theorem td60 : Tab.d tab 60 = .func := by kernel_rfl
@[simp] theorem tu60 : Tab.und tab 60 = 60 := by kernel_rfl
@[simp] theorem ts60 : Tab.size tab 60 = 1 := by kernel_rfl
@[simp] theorem tb60 : Tab.bytes tab 60 = 8 := by kernel_rfl
@[simp] theorem tz60 : zero tab 60 = some .nilf := by kernel_rfl
@[simp] theorem td61 : Tab.d tab 61 = .func := by kernel_rfl
@[simp] theorem tu61 : Tab.und tab 61 = 61 := by kernel_rfl
@[simp] theorem ts61 : Tab.size tab 61 = 1 := by kernel_rfl
@[simp] theorem tb61 : Tab.bytes tab 61 = 8 := by kernel_rfl
@[simp] theorem tz61 : zero tab 61 = some .nilf := by kernel_rfl
@[simp] theorem td62 : Tab.d tab 62 = .func := by kernel_rfl
@[simp] theorem tu62 : Tab.und tab 62 = 62 := by kernel_rfl
@[simp] theorem ts62 : Tab.size tab 62 = 1 := by kernel_rfl
@[simp] theorem tb62 : Tab.bytes tab 62 = 8 := by kernel_rfl
@[simp] theorem tz62 : zero tab 62 = some .nilf := by kernel_rfl
@[simp] theorem td63 : Tab.d tab 63 = .func := by kernel_rfl
@[simp] theorem tu63 : Tab.und tab 63 = 63 := by kernel_rfl
@[simp] theorem ts63 : Tab.size tab 63 = 1 := by kernel_rfl
@[simp] theorem tb63 : Tab.bytes tab 63 = 8 := by kernel_rfl
@[simp] theorem tz63 : zero tab 63 = some .nilf := by kernel_rfl
@[simp] theorem td64 : Tab.d tab 64 = .func := by kernel_rfl
@[simp] theorem tu64 : Tab.und tab 64 = 64 := by kernel_rfl
@[simp] theorem ts64 : Tab.size tab 64 = 1 := by kernel_rfl
@[simp] theorem tb64 : Tab.bytes tab 64 = 8 := by kernel_rfl
@[simp] theorem tz64 : zero tab 64 = some .nilf := by kernel_rfl
@[simp] theorem td65 : Tab.d tab 65 = (.slice 71) := by kernel_rfl
@[simp] theorem tu65 : Tab.und tab 65 = 65 := by kernel_rfl
@[simp] theorem ts65 : Tab.size tab 65 = 1 := by kernel_rfl
@[simp] theorem tb65 : Tab.bytes tab 65 = 24 := by kernel_rfl
@[simp] theorem tz65 : zero tab 65 = some .nils := by kernel_rfl
@[simp] theorem td66 : Tab.d tab 66 = .func := by kernel_rfl
@[simp] theorem tu66 : Tab.und tab 66 = 66 := by kernel_rfl
@[simp] theorem ts66 : Tab.size tab 66 = 1 := by kernel_rfl
@[simp] theorem tb66 : Tab.bytes tab 66 = 8 := by kernel_rfl
@[simp] theorem tz66 : zero tab 66 = some .nilf := by kernel_rfl
@[simp] theorem td67 : Tab.d tab 67 = (.ptr 76) := by kernel_rfl
@[simp] theorem tu67 : Tab.und tab 67 = 67 := by kernel_rfl
@[simp] theorem ts67 : Tab.size tab 67 = 1 := by kernel_rfl
@[simp] theorem tb67 : Tab.bytes tab 67 = 8 := by kernel_rfl
@[simp] theorem tz67 : zero tab 67 = some .nilp := by kernel_rfl
@[simp] theorem td68 : Tab.d tab 68 = .tuple := by kernel_rfl
@[simp] theorem tu68 : Tab.und tab 68 = 68 := by kernel_rfl
@[simp] theorem ts68 : Tab.size tab 68 = 1 := by kernel_rfl
@[simp] theorem tb68 : Tab.bytes tab 68 = 0 := by kernel_rfl
@[simp] theorem td69 : Tab.d tab 69 = .func := by kernel_rfl
@[simp] theorem tu69 : Tab.und tab 69 = 69 := by kernel_rfl
@[simp] theorem ts69 : Tab.size tab 69 = 1 := by kernel_rfl
@[simp] theorem tb69 : Tab.bytes tab 69 = 8 := by kernel_rfl
@[simp] theorem tz69 : zero tab 69 = some .nilf := by kernel_rfl
@[simp] theorem td70 : Tab.d tab 70 = (.struct [3, 3, 3, 22, 44]) := by kernel_rfl
@[simp] theorem tu70 : Tab.und tab 70 = 70 := by kernel_rfl
@[simp] theorem ts70 : Tab.size tab 70 = 5 := by kernel_rfl
@[simp] theorem tb70 : Tab.bytes tab 70 = 56 := by kernel_rfl
@[simp] theorem tz70 : zero tab 70 = some (.agg 70 [(.int .i64 0), (.int .i64 0), (.int .i64 0), .nils, (.int .u64 0)]) := by kernel_rfl
@[simp] theorem td71 : Tab.d tab 71 = (.struct [3, 3, 3, 22, 44]) := by kernel_rfl
@[simp] theorem tu71 : Tab.und tab 71 = 70 := by kernel_rfl
@[simp] theorem ts71 : Tab.size tab 71 = 5 := by kernel_rfl
@[simp] theorem tb71 : Tab.bytes tab 71 = 56 := by kernel_rfl
@[simp] theorem tz71 : zero tab 71 = some (.agg 70 [(.int .i64 0), (.int .i64 0), (.int .i64 0), .nils, (.int .u64 0)]) := by kernel_rfl
@[simp] theorem td72 : Tab.d tab 72 = (.slice 112) := by kernel_rfl
@[simp] theorem tu72 : Tab.und tab 72 = 72 := by kernel_rfl
@[simp] theorem ts72 : Tab.size tab 72 = 1 := by kernel_rfl
@[simp] theorem tb72 : Tab.bytes tab 72 = 24 := by kernel_rfl
@[simp] theorem tz72 : zero tab 72 = some .nils := by kernel_rfl
@[simp] theorem td73 : Tab.d tab 73 = (.struct [30, 72, 3, 4]) := by kernel_rfl
@[simp] theorem tu73 : Tab.und tab 73 = 73 := by kernel_rfl
@[simp] theorem ts73 : Tab.size tab 73 = 4 := by kernel_rfl
@[simp] theorem tb73 : Tab.bytes tab 73 = 64 := by kernel_rfl
@[simp] theorem tz73 : zero tab 73 = some (.agg 73 [.nils, .nils, (.int .i64 0), (.bool false)]) := by kernel_rfl
@[simp] theorem td74 : Tab.d tab 74 = (.struct [30, 72, 3, 4]) := by kernel_rfl
@[simp] theorem tu74 : Tab.und tab 74 = 73 := by kernel_rfl
@[simp] theorem ts74 : Tab.size tab 74 = 4 := by kernel_rfl
@[simp] theorem tb74 : Tab.bytes tab 74 = 64 := by kernel_rfl
@[simp] theorem tz74 : zero tab 74 = some (.agg 73 [.nils, .nils, (.int .i64 0), (.bool false)]) := by kernel_rfl
@[simp] theorem td75 : Tab.d tab 75 = (.struct [50, 3, 3, 4]) := by kernel_rfl
@[simp] theorem tu75 : Tab.und tab 75 = 75 := by kernel_rfl
@[simp] theorem ts75 : Tab.size tab 75 = 4 := by kernel_rfl
@[simp] theorem tb75 : Tab.bytes tab 75 = 32 := by kernel_rfl
@[simp] theorem tz75 : zero tab 75 = some (.agg 75 [.nilp, (.int .i64 0), (.int .i64 0), (.bool false)]) := by kernel_rfl
@[simp] theorem td76 : Tab.d tab 76 = (.struct [50, 3, 3, 4]) := by kernel_rfl
@[simp] theorem tu76 : Tab.und tab 76 = 75 := by kernel_rfl
@[simp] theorem ts76 : Tab.size tab 76 = 4 := by kernel_rfl
@[simp] theorem tb76 : Tab.bytes tab 76 = 32 := by kernel_rfl
@[simp] theorem tz76 : zero tab 76 = some (.agg 75 [.nilp, (.int .i64 0), (.int .i64 0), (.bool false)]) := by kernel_rfl
@[simp] theorem td77 : Tab.d tab 77 = .func := by kernel_rfl
@[simp] theorem tu77 : Tab.und tab 77 = 77 := by kernel_rfl
@[simp] theorem ts77 : Tab.size tab 77 = 1 := by kernel_rfl
@[simp] theorem tb77 : Tab.bytes tab 77 = 8 := by kernel_rfl
@[simp] theorem tz77 : zero tab 77 = some .nilf := by kernel_rfl
@[simp] theorem td78 : Tab.d tab 78 = (.int .u64) := by kernel_rfl
@[simp] theorem tu78 : Tab.und tab 78 = 78 := by kernel_rfl
@[simp] theorem ts78 : Tab.size tab 78 = 1 := by kernel_rfl
@[simp] theorem tb78 : Tab.bytes tab 78 = 8 := by kernel_rfl
@[simp] theorem tz78 : zero tab 78 = some (.int .u64 0) := by kernel_rfl
@[simp] theorem td79 : Tab.d tab 79 = .func := by kernel_rfl
@[simp] theorem tu79 : Tab.und tab 79 = 79 := by kernel_rfl
@[simp] theorem ts79 : Tab.size tab 79 = 1 := by kernel_rfl
@[simp] theorem tb79 : Tab.bytes tab 79 = 8 := by kernel_rfl
@[simp] theorem tz79 : zero tab 79 = some .nilf := by kernel_rfl
@[simp] theorem td80 : Tab.d tab 80 = .func := by kernel_rfl
@[simp] theorem tu80 : Tab.und tab 80 = 80 := by kernel_rfl
@[simp] theorem ts80 : Tab.size tab 80 = 1 := by kernel_rfl
@[simp] theorem tb80 : Tab.bytes tab 80 = 8 := by kernel_rfl
@[simp] theorem tz80 : zero tab 80 = some .nilf := by kernel_rfl
@[simp] theorem td81 : Tab.d tab 81 = (.slice 89) := by kernel_rfl
@[simp] theorem tu81 : Tab.und tab 81 = 81 := by kernel_rfl
@[simp] theorem ts81 : Tab.size tab 81 = 1 := by kernel_rfl
@[simp] theorem tb81 : Tab.bytes tab 81 = 24 := by kernel_rfl
@[simp] theorem tz81 : zero tab 81 = some .nils := by kernel_rfl
@[simp] theorem td82 : Tab.d tab 82 = (.slice 91) := by kernel_rfl
@[simp] theorem tu82 : Tab.und tab 82 = 82 := by kernel_rfl
@[simp] theorem ts82 : Tab.size tab 82 = 1 := by kernel_rfl
@[simp] theorem tb82 : Tab.bytes tab 82 = 24 := by kernel_rfl
@[simp] theorem tz82 : zero tab 82 = some .nils := by kernel_rfl
@[simp] theorem td83 : Tab.d tab 83 = (.struct [81, 82, 3, 4]) := by kernel_rfl
@[simp] theorem tu83 : Tab.und tab 83 = 83 := by kernel_rfl
@[simp] theorem ts83 : Tab.size tab 83 = 4 := by kernel_rfl
@[simp] theorem tb83 : Tab.bytes tab 83 = 64 := by kernel_rfl
@[simp] theorem tz83 : zero tab 83 = some (.agg 83 [.nils, .nils, (.int .i64 0), (.bool false)]) := by kernel_rfl
@[simp] theorem td84 : Tab.d tab 84 = (.struct [81, 82, 3, 4]) := by kernel_rfl
@[simp] theorem tu84 : Tab.und tab 84 = 83 := by kernel_rfl
@[simp] theorem ts84 : Tab.size tab 84 = 4 := by kernel_rfl
@[simp] theorem tb84 : Tab.bytes tab 84 = 64 := by kernel_rfl
@[simp] theorem tz84 : zero tab 84 = some (.agg 83 [.nils, .nils, (.int .i64 0), (.bool false)]) := by kernel_rfl
@[simp] theorem td85 : Tab.d tab 85 = .func := by kernel_rfl
@[simp] theorem tu85 : Tab.und tab 85 = 85 := by kernel_rfl
@[simp] theorem ts85 : Tab.size tab 85 = 1 := by kernel_rfl
@[simp] theorem tb85 : Tab.bytes tab 85 = 8 := by kernel_rfl
@[simp] theorem tz85 : zero tab 85 = some .nilf := by kernel_rfl
@[simp] theorem td86 : Tab.d tab 86 = .tuple := by kernel_rfl
@[simp] theorem tu86 : Tab.und tab 86 = 86 := by kernel_rfl
@[simp] theorem ts86 : Tab.size tab 86 = 1 := by kernel_rfl
@[simp] theorem tb86 : Tab.bytes tab 86 = 0 := by kernel_rfl
@[simp] theorem td87 : Tab.d tab 87 = .func := by kernel_rfl
@[simp] theorem tu87 : Tab.und tab 87 = 87 := by kernel_rfl
@[simp] theorem ts87 : Tab.size tab 87 = 1 := by kernel_rfl
@[simp] theorem tb87 : Tab.bytes tab 87 = 8 := by kernel_rfl
@[simp] theorem tz87 : zero tab 87 = some .nilf := by kernel_rfl
@[simp] theorem td88 : Tab.d tab 88 = (.arr 64 5) := by kernel_rfl
@[simp] theorem tu88 : Tab.und tab 88 = 88 := by kernel_rfl
@[simp] theorem ts88 : Tab.size tab 88 = 64 := by kernel_rfl
@[simp] theorem tb88 : Tab.bytes tab 88 = 64 := by kernel_rfl
@[simp] theorem tz88 : zero tab 88 = some (.agg 88 (List.replicate 64 (.int .u8 0))) := by kernel_rfl
@[simp] theorem td89 : Tab.d tab 89 = (.arr 64 5) := by kernel_rfl
@[simp] theorem tu89 : Tab.und tab 89 = 88 := by kernel_rfl
@[simp] theorem ts89 : Tab.size tab 89 = 64 := by kernel_rfl
@[simp] theorem tb89 : Tab.bytes tab 89 = 64 := by kernel_rfl
@[simp] theorem tz89 : zero tab 89 = some (.agg 88 (List.replicate 64 (.int .u8 0))) := by kernel_rfl
@[simp] theorem td90 : Tab.d tab 90 = (.struct [3, 89]) := by kernel_rfl
@[simp] theorem tu90 : Tab.und tab 90 = 90 := by kernel_rfl
@[simp] theorem ts90 : Tab.size tab 90 = 65 := by kernel_rfl
@[simp] theorem tb90 : Tab.bytes tab 90 = 72 := by kernel_rfl
@[simp] theorem tz90 : zero tab 90 = some (.agg 90 [(.int .i64 0), (.agg 88 (List.replicate 64 (.int .u8 0)))]) := by kernel_rfl
@[simp] theorem td91 : Tab.d tab 91 = (.struct [3, 89]) := by kernel_rfl
@[simp] theorem tu91 : Tab.und tab 91 = 90 := by kernel_rfl
@[simp] theorem ts91 : Tab.size tab 91 = 65 := by kernel_rfl
@[simp] theorem tb91 : Tab.bytes tab 91 = 72 := by kernel_rfl
@[simp] theorem tz91 : zero tab 91 = some (.agg 90 [(.int .i64 0), (.agg 88 (List.replicate 64 (.int .u8 0)))]) := by kernel_rfl
@[simp] theorem td92 : Tab.d tab 92 = .func := by kernel_rfl
@[simp] theorem tu92 : Tab.und tab 92 = 92 := by kernel_rfl
@[simp] theorem ts92 : Tab.size tab 92 = 1 := by kernel_rfl
@[simp] theorem tb92 : Tab.bytes tab 92 = 8 := by kernel_rfl
@[simp] theorem tz92 : zero tab 92 = some .nilf := by kernel_rfl
@[simp] theorem td93 : Tab.d tab 93 = (.slice 3) := by kernel_rfl
@[simp] theorem tu93 : Tab.und tab 93 = 93 := by kernel_rfl
@[simp] theorem ts93 : Tab.size tab 93 = 1 := by kernel_rfl
@[simp] theorem tb93 : Tab.bytes tab 93 = 24 := by kernel_rfl
@[simp] theorem tz93 : zero tab 93 = some .nils := by kernel_rfl
@[simp] theorem td94 : Tab.d tab 94 = .func := by kernel_rfl
@[simp] theorem tu94 : Tab.und tab 94 = 94 := by kernel_rfl
@[simp] theorem ts94 : Tab.size tab 94 = 1 := by kernel_rfl
@[simp] theorem tb94 : Tab.bytes tab 94 = 8 := by kernel_rfl
@[simp] theorem tz94 : zero tab 94 = some .nilf := by kernel_rfl
@[simp] theorem td95 : Tab.d tab 95 = (.struct [3, 3, 3, 22, 44]) := by kernel_rfl
@[simp] theorem tu95 : Tab.und tab 95 = 95 := by kernel_rfl
@[simp] theorem ts95 : Tab.size tab 95 = 5 := by kernel_rfl
@[simp] theorem tb95 : Tab.bytes tab 95 = 56 := by kernel_rfl
@[simp] theorem tz95 : zero tab 95 = some (.agg 95 [(.int .i64 0), (.int .i64 0), (.int .i64 0), .nils, (.int .u64 0)]) := by kernel_rfl
@[simp] theorem td96 : Tab.d tab 96 = (.struct [3, 3, 3, 22, 44]) := by kernel_rfl
@[simp] theorem tu96 : Tab.und tab 96 = 95 := by kernel_rfl
@[simp] theorem ts96 : Tab.size tab 96 = 5 := by kernel_rfl
@[simp] theorem tb96 : Tab.bytes tab 96 = 56 := by kernel_rfl
@[simp] theorem tz96 : zero tab 96 = some (.agg 95 [(.int .i64 0), (.int .i64 0), (.int .i64 0), .nils, (.int .u64 0)]) := by kernel_rfl
@[simp] theorem td97 : Tab.d tab 97 = .func := by kernel_rfl
@[simp] theorem tu97 : Tab.und tab 97 = 97 := by kernel_rfl
@[simp] theorem ts97 : Tab.size tab 97 = 1 := by kernel_rfl
@[simp] theorem tb97 : Tab.bytes tab 97 = 8 := by kernel_rfl
@[simp] theorem tz97 : zero tab 97 = some .nilf := by kernel_rfl
@[simp] theorem td98 : Tab.d tab 98 = .func := by kernel_rfl
@[simp] theorem tu98 : Tab.und tab 98 = 98 := by kernel_rfl
@[simp] theorem ts98 : Tab.size tab 98 = 1 := by kernel_rfl
@[simp] theorem tb98 : Tab.bytes tab 98 = 8 := by kernel_rfl
@[simp] theorem tz98 : zero tab 98 = some .nilf := by kernel_rfl
@[simp] theorem td99 : Tab.d tab 99 = .func := by kernel_rfl
@[simp] theorem tu99 : Tab.und tab 99 = 99 := by kernel_rfl
@[simp] theorem ts99 : Tab.size tab 99 = 1 := by kernel_rfl
@[simp] theorem tb99 : Tab.bytes tab 99 = 8 := by kernel_rfl
@[simp] theorem tz99 : zero tab 99 = some .nilf := by kernel_rfl
@[simp] theorem td100 : Tab.d tab 100 = .func := by kernel_rfl
@[simp] theorem tu100 : Tab.und tab 100 = 100 := by kernel_rfl
@[simp] theorem ts100 : Tab.size tab 100 = 1 := by kernel_rfl
@[simp] theorem tb100 : Tab.bytes tab 100 = 8 := by kernel_rfl
@[simp] theorem tz100 : zero tab 100 = some .nilf := by kernel_rfl
@[simp] theorem td101 : Tab.d tab 101 = .tuple := by kernel_rfl
@[simp] theorem tu101 : Tab.und tab 101 = 101 := by kernel_rfl
@[simp] theorem ts101 : Tab.size tab 101 = 1 := by kernel_rfl
@[simp] theorem tb101 : Tab.bytes tab 101 = 0 := by kernel_rfl
@[simp] theorem td102 : Tab.d tab 102 = .func := by kernel_rfl
@[simp] theorem tu102 : Tab.und tab 102 = 102 := by kernel_rfl
@[simp] theorem ts102 : Tab.size tab 102 = 1 := by kernel_rfl
@[simp] theorem tb102 : Tab.bytes tab 102 = 8 := by kernel_rfl
@[simp] theorem tz102 : zero tab 102 = some .nilf := by kernel_rfl
@[simp] theorem td103 : Tab.d tab 103 = (.struct [25, 3, 3, 4]) := by kernel_rfl
@[simp] theorem tu103 : Tab.und tab 103 = 103 := by kernel_rfl
@[simp] theorem ts103 : Tab.size tab 103 = 4 := by kernel_rfl
@[simp] theorem tb103 : Tab.bytes tab 103 = 32 := by kernel_rfl
@[simp] theorem tz103 : zero tab 103 = some (.agg 103 [.nilp, (.int .i64 0), (.int .i64 0), (.bool false)]) := by kernel_rfl
@[simp] theorem td104 : Tab.d tab 104 = (.struct [25, 3, 3, 4]) := by kernel_rfl
@[simp] theorem tu104 : Tab.und tab 104 = 103 := by kernel_rfl
@[simp] theorem ts104 : Tab.size tab 104 = 4 := by kernel_rfl
@[simp] theorem tb104 : Tab.bytes tab 104 = 32 := by kernel_rfl
@[simp] theorem tz104 : zero tab 104 = some (.agg 103 [.nilp, (.int .i64 0), (.int .i64 0), (.bool false)]) := by kernel_rfl
@[simp] theorem td105 : Tab.d tab 105 = (.int .u32) := by kernel_rfl
@[simp] theorem tu105 : Tab.und tab 105 = 105 := by kernel_rfl
@[simp] theorem ts105 : Tab.size tab 105 = 1 := by kernel_rfl
@[simp] theorem tb105 : Tab.bytes tab 105 = 4 := by kernel_rfl
@[simp] theorem tz105 : zero tab 105 = some (.int .u32 0) := by kernel_rfl
@[simp] theorem td106 : Tab.d tab 106 = .func := by kernel_rfl
@[simp] theorem tu106 : Tab.und tab 106 = 106 := by kernel_rfl
@[simp] theorem ts106 : Tab.size tab 106 = 1 := by kernel_rfl
@[simp] theorem tb106 : Tab.bytes tab 106 = 8 := by kernel_rfl
@[simp] theorem tz106 : zero tab 106 = some .nilf := by kernel_rfl
@[simp] theorem td107 : Tab.d tab 107 = .func := by kernel_rfl
@[simp] theorem tu107 : Tab.und tab 107 = 107 := by kernel_rfl
@[simp] theorem ts107 : Tab.size tab 107 = 1 := by kernel_rfl
@[simp] theorem tb107 : Tab.bytes tab 107 = 8 := by kernel_rfl
@[simp] theorem tz107 : zero tab 107 = some .nilf := by kernel_rfl
@[simp] theorem td108 : Tab.d tab 108 = .func := by kernel_rfl
@[simp] theorem tu108 : Tab.und tab 108 = 108 := by kernel_rfl
@[simp] theorem ts108 : Tab.size tab 108 = 1 := by kernel_rfl
@[simp] theorem tb108 : Tab.bytes tab 108 = 8 := by kernel_rfl
@[simp] theorem tz108 : zero tab 108 = some .nilf := by kernel_rfl
@[simp] theorem td109 : Tab.d tab 109 = .func := by kernel_rfl
@[simp] theorem tu109 : Tab.und tab 109 = 109 := by kernel_rfl
@[simp] theorem ts109 : Tab.size tab 109 = 1 := by kernel_rfl
@[simp] theorem tb109 : Tab.bytes tab 109 = 8 := by kernel_rfl
@[simp] theorem tz109 : zero tab 109 = some .nilf := by kernel_rfl
@[simp] theorem td110 : Tab.d tab 110 = .func := by kernel_rfl
@[simp] theorem tu110 : Tab.und tab 110 = 110 := by kernel_rfl
@[simp] theorem ts110 : Tab.size tab 110 = 1 := by kernel_rfl
@[simp] theorem tb110 : Tab.bytes tab 110 = 8 := by kernel_rfl
@[simp] theorem tz110 : zero tab 110 = some .nilf := by kernel_rfl
@[simp] theorem td111 : Tab.d tab 111 = (.struct [3, 22]) := by kernel_rfl
@[simp] theorem tu111 : Tab.und tab 111 = 111 := by kernel_rfl
@[simp] theorem ts111 : Tab.size tab 111 = 2 := by kernel_rfl
@[simp] theorem tb111 : Tab.bytes tab 111 = 32 := by kernel_rfl
@[simp] theorem tz111 : zero tab 111 = some (.agg 111 [(.int .i64 0), .nils]) := by kernel_rfl
@[simp] theorem td112 : Tab.d tab 112 = (.struct [3, 22]) := by kernel_rfl
@[simp] theorem tu112 : Tab.und tab 112 = 111 := by kernel_rfl
@[simp] theorem ts112 : Tab.size tab 112 = 2 := by kernel_rfl
@[simp] theorem tb112 : Tab.bytes tab 112 = 32 := by kernel_rfl
@[simp] theorem tz112 : zero tab 112 = some (.agg 111 [(.int .i64 0), .nils]) := by kernel_rfl
@[simp] theorem td113 : Tab.d tab 113 = .func := by kernel_rfl
@[simp] theorem tu113 : Tab.und tab 113 = 113 := by kernel_rfl
@[simp] theorem ts113 : Tab.size tab 113 = 1 := by kernel_rfl
@[simp] theorem tb113 : Tab.bytes tab 113 = 8 := by kernel_rfl
@[simp] theorem tz113 : zero tab 113 = some .nilf := by kernel_rfl
@[simp] theorem td114 : Tab.d tab 114 = .func := by kernel_rfl
@[simp] theorem tu114 : Tab.und tab 114 = 114 := by kernel_rfl
@[simp] theorem ts114 : Tab.size tab 114 = 1 := by kernel_rfl
@[simp] theorem tb114 : Tab.bytes tab 114 = 8 := by kernel_rfl
@[simp] theorem tz114 : zero tab 114 = some .nilf := by kernel_rfl
@[simp] theorem td115 : Tab.d tab 115 = .func := by kernel_rfl
@[simp] theorem tu115 : Tab.und tab 115 = 115 := by kernel_rfl
@[simp] theorem ts115 : Tab.size tab 115 = 1 := by kernel_rfl
@[simp] theorem tb115 : Tab.bytes tab 115 = 8 := by kernel_rfl
@[simp] theorem tz115 : zero tab 115 = some .nilf := by kernel_rfl
@[simp] theorem td116 : Tab.d tab 116 = .func := by kernel_rfl
@[simp] theorem tu116 : Tab.und tab 116 = 116 := by kernel_rfl
@[simp] theorem ts116 : Tab.size tab 116 = 1 := by kernel_rfl
@[simp] theorem tb116 : Tab.bytes tab 116 = 8 := by kernel_rfl
@[simp] theorem tz116 : zero tab 116 = some .nilf := by kernel_rfl
@[simp] theorem td117 : Tab.d tab 117 = .tuple := by kernel_rfl
@[simp] theorem tu117 : Tab.und tab 117 = 117 := by kernel_rfl
@[simp] theorem ts117 : Tab.size tab 117 = 1 := by kernel_rfl
@[simp] theorem tb117 : Tab.bytes tab 117 = 0 := by kernel_rfl
@[simp] theorem td118 : Tab.d tab 118 = .func := by kernel_rfl
@[simp] theorem tu118 : Tab.und tab 118 = 118 := by kernel_rfl
@[simp] theorem ts118 : Tab.size tab 118 = 1 := by kernel_rfl
@[simp] theorem tb118 : Tab.bytes tab 118 = 8 := by kernel_rfl
@[simp] theorem tz118 : zero tab 118 = some .nilf := by kernel_rfl
@[simp] theorem td119 : Tab.d tab 119 = .func := by kernel_rfl
@[simp] theorem tu119 : Tab.und tab 119 = 119 := by kernel_rfl
@[simp] theorem ts119 : Tab.size tab 119 = 1 := by kernel_rfl
@[simp] theorem tb119 : Tab.bytes tab 119 = 8 := by kernel_rfl
@[simp] theorem tz119 : zero tab 119 = some .nilf := by kernel_rfl
@[simp] theorem td120 : Tab.d tab 120 = (.struct [17, 17, 17, 9]) := by kernel_rfl
@[simp] theorem tu120 : Tab.und tab 120 = 120 := by kernel_rfl
@[simp] theorem ts120 : Tab.size tab 120 = 4 := by kernel_rfl
@[simp] theorem tb120 : Tab.bytes tab 120 = 40 := by kernel_rfl
@[simp] theorem tz120 : zero tab 120 = some (.agg 120 [.nilp, .nilp, .nilp, (.str .empty)]) := by kernel_rfl
@[simp] theorem td121 : Tab.d tab 121 = (.struct [17, 17, 17, 9]) := by kernel_rfl
@[simp] theorem tu121 : Tab.und tab 121 = 120 := by kernel_rfl
@[simp] theorem ts121 : Tab.size tab 121 = 4 := by kernel_rfl
@[simp] theorem tb121 : Tab.bytes tab 121 = 40 := by kernel_rfl
@[simp] theorem tz121 : zero tab 121 = some (.agg 120 [.nilp, .nilp, .nilp, (.str .empty)]) := by kernel_rfl
@[simp] theorem td122 : Tab.d tab 122 = (.arr 0 16) := by kernel_rfl
@[simp] theorem tu122 : Tab.und tab 122 = 122 := by kernel_rfl
@[simp] theorem ts122 : Tab.size tab 122 = 0 := by kernel_rfl
@[simp] theorem tb122 : Tab.bytes tab 122 = 0 := by kernel_rfl
@[simp] theorem tz122 : zero tab 122 = some (.agg 122 (List.replicate 0 .nilp)) := by kernel_rfl
@[simp] theorem td123 : Tab.d tab 123 = (.struct [122]) := by kernel_rfl
@[simp] theorem tu123 : Tab.und tab 123 = 123 := by kernel_rfl
@[simp] theorem ts123 : Tab.size tab 123 = 0 := by kernel_rfl
@[simp] theorem tb123 : Tab.bytes tab 123 = 0 := by kernel_rfl
@[simp] theorem tz123 : zero tab 123 = some (.agg 123 [(.agg 122 (List.replicate 0 .nilp))]) := by kernel_rfl
@[simp] theorem td124 : Tab.d tab 124 = (.struct [122]) := by kernel_rfl
@[simp] theorem tu124 : Tab.und tab 124 = 123 := by kernel_rfl
@[simp] theorem ts124 : Tab.size tab 124 = 0 := by kernel_rfl
@[simp] theorem tb124 : Tab.bytes tab 124 = 0 := by kernel_rfl
@[simp] theorem tz124 : zero tab 124 = some (.agg 123 [(.agg 122 (List.replicate 0 .nilp))]) := by kernel_rfl
@[simp] theorem td125 : Tab.d tab 125 = (.int .u8) := by kernel_rfl
@[simp] theorem tu125 : Tab.und tab 125 = 5 := by kernel_rfl
@[simp] theorem ts125 : Tab.size tab 125 = 1 := by kernel_rfl
@[simp] theorem tb125 : Tab.bytes tab 125 = 1 := by kernel_rfl
@[simp] theorem tz125 : zero tab 125 = some (.int .u8 0) := by kernel_rfl
@[simp] theorem td126 : Tab.d tab 126 = (.int .u8) := by kernel_rfl
@[simp] theorem tu126 : Tab.und tab 126 = 5 := by kernel_rfl
@[simp] theorem ts126 : Tab.size tab 126 = 1 := by kernel_rfl
@[simp] theorem tb126 : Tab.bytes tab 126 = 1 := by kernel_rfl
@[simp] theorem tz126 : zero tab 126 = some (.int .u8 0) := by kernel_rfl
@[simp] theorem td127 : Tab.d tab 127 = .func := by kernel_rfl
@[simp] theorem tu127 : Tab.und tab 127 = 127 := by kernel_rfl
@[simp] theorem ts127 : Tab.size tab 127 = 1 := by kernel_rfl
@[simp] theorem tb127 : Tab.bytes tab 127 = 8 := by kernel_rfl
@[simp] theorem tz127 : zero tab 127 = some .nilf := by kernel_rfl
@[simp] theorem td128 : Tab.d tab 128 = (.ptr 5) := by kernel_rfl
@[simp] theorem tu128 : Tab.und tab 128 = 128 := by kernel_rfl
@[simp] theorem ts128 : Tab.size tab 128 = 1 := by kernel_rfl
@[simp] theorem tb128 : Tab.bytes tab 128 = 8 := by kernel_rfl
@[simp] theorem tz128 : zero tab 128 = some .nilp := by kernel_rfl
@[simp] theorem td129 : Tab.d tab 129 = (.int .i32) := by kernel_rfl
@[simp] theorem tu129 : Tab.und tab 129 = 21 := by kernel_rfl
@[simp] theorem ts129 : Tab.size tab 129 = 1 := by kernel_rfl
@[simp] theorem tb129 : Tab.bytes tab 129 = 4 := by kernel_rfl
@[simp] theorem tz129 : zero tab 129 = some (.int .i32 0) := by kernel_rfl
@[simp] theorem td130 : Tab.d tab 130 = (.int .i32) := by kernel_rfl
@[simp] theorem tu130 : Tab.und tab 130 = 21 := by kernel_rfl
@[simp] theorem ts130 : Tab.size tab 130 = 1 := by kernel_rfl
@[simp] theorem tb130 : Tab.bytes tab 130 = 4 := by kernel_rfl
@[simp] theorem tz130 : zero tab 130 = some (.int .i32 0) := by kernel_rfl
@[simp] theorem td131 : Tab.d tab 131 = (.struct [12, 12, 105, 125, 5, 5, 126, 127, 128, 129, 130]) := by kernel_rfl
@[simp] theorem tu131 : Tab.und tab 131 = 131 := by kernel_rfl
@[simp] theorem ts131 : Tab.size tab 131 = 11 := by kernel_rfl
@[simp] theorem tb131 : Tab.bytes tab 131 = 48 := by kernel_rfl
@[simp] theorem tz131 : zero tab 131 = some (.agg 131 [(.int .u64 0), (.int .u64 0), (.int .u32 0), (.int .u8 0), (.int .u8 0), (.int .u8 0), (.int .u8 0), .nilf, .nilp, (.int .i32 0), (.int .i32 0)]) := by kernel_rfl
@[simp] theorem td132 : Tab.d tab 132 = (.struct [12, 12, 105, 125, 5, 5, 126, 127, 128, 129, 130]) := by kernel_rfl
@[simp] theorem tu132 : Tab.und tab 132 = 131 := by kernel_rfl
@[simp] theorem ts132 : Tab.size tab 132 = 11 := by kernel_rfl
@[simp] theorem tb132 : Tab.bytes tab 132 = 48 := by kernel_rfl
@[simp] theorem tz132 : zero tab 132 = some (.agg 131 [(.int .u64 0), (.int .u64 0), (.int .u32 0), (.int .u8 0), (.int .u8 0), (.int .u8 0), (.int .u8 0), .nilf, .nilp, (.int .i32 0), (.int .i32 0)]) := by kernel_rfl
@[simp] theorem td133 : Tab.d tab 133 = .other := by kernel_rfl
@[simp] theorem tu133 : Tab.und tab 133 = 133 := by kernel_rfl
@[simp] theorem ts133 : Tab.size tab 133 = 1 := by kernel_rfl
@[simp] theorem tb133 : Tab.bytes tab 133 = 8 := by kernel_rfl
end Go.Ax

/- What the named operations come to on plain things. -/
namespace Go.Ax
open Go

/-- A number of 32 bits; a byte. -/
def U32 (v : BitVec 32) : AV := .int .u32 (v.toNat : Int)
def U8 (v : UInt8) : AV := .int .u8 (v.toNat : Int)
abbrev I64 (n : Int) : AV := .int .i64 n

variable {β : Type}
@[simp] theorem bnd_s {α : Type} (v : α) (k : α → Option β) : bnd (some v) k = k v := rfl
@[simp] theorem bnd_n {α : Type} (k : α → Option β) : bnd none k = none := rfl
@[simp] theorem bnd2_s (v : AV) (h : Heap) (k : AV → Heap → Option β) : bnd2 (some (v, h)) k = k v h := rfl
@[simp] theorem onB_t (x y : Option β) : onB (.bool true) x y = x := rfl
@[simp] theorem onB_f (x y : Option β) : onB (.bool false) x y = y := rfl
@[simp] theorem onG_tt (x y : Option β) : onG true (.bool true) x y = x := rfl
@[simp] theorem onG_tf (x y : Option β) : onG true (.bool false) x y = y := rfl
@[simp] theorem onG_ft (x y : Option β) : onG false (.bool true) x y = y := rfl
@[simp] theorem onG_ff (x y : Option β) : onG false (.bool false) x y = x := rfl
@[simp] theorem onG_s (w : Bool) (x y : Option β) : onG w .skip x y = y := rfl
@[simp] theorem onT_t (x : Option β) : onT true x = x := rfl
/-! What follows is looked at only when what it hangs on is done. -/
@[congr] theorem bnd_congr {α : Type} {x x' : Option α} {k : α → Option β} (h : x = x') : bnd x k = bnd x' k := by rw [h]
@[congr] theorem bnd2_congr {x x' : Option (AV × Heap)} {k : AV → Heap → Option β} (h : x = x') : bnd2 x k = bnd2 x' k := by rw [h]
@[congr] theorem onB_congr {c c' : AV} {x y : Option β} (h : c = c') : onB c x y = onB c' x y := by rw [h]
@[congr] theorem onG_congr {w : Bool} {c c' : AV} {x y : Option β} (h : c = c') : onG w c x y = onG w c' x y := by rw [h]
@[congr] theorem onT_congr {c c' : Bool} {x : Option β} (h : c = c') : onT c x = onT c' x := by rw [h]
@[congr] theorem runK_congr {C : Cfg} {call : CallF} {md : Bool} {f n : Nat} {c : Code} {k : Ex → List AV → Heap → Option β} {tm tm' : List AV} {h h' : Heap} (e : tm = tm') (e' : h = h') :
    runK C call md f n c k tm h = runK C call md f n c k tm' h' := by rw [e, e']
@[congr] theorem loopK_congr {step : (List AV → Heap → Option β) → List AV → Heap → Option β} {n : Nat} {tm tm' : List AV} {h h' : Heap} (e : tm = tm') (e' : h = h') :
    loopK step n tm h = loopK step n tm' h' := by rw [e, e']
theorem onB_b (b : Bool) (x y : Option β) : onB (.bool b) x y = if b then x else y := by cases b <;> rfl
@[simp] theorem aPick_t (a b : AV) : aPick (.bool true) a b = some a := rfl
@[simp] theorem aPick_f (a b : AV) : aPick (.bool false) a b = some b := rfl

section ints
variable (T : Tab) (t : Ty) (k : IntKind) (a b : Int) (c : Bool)
@[simp] theorem bin_add : aBinC T .add t (.int k a) (.int k b) c = some (.int k (k.wrap (a + b))) := by simp [aBinC, aBin, Go.binOp, Op.intArith, ofPure, pure]
@[simp] theorem bin_sub : aBinC T .sub t (.int k a) (.int k b) c = some (.int k (k.wrap (a - b))) := by simp [aBinC, aBin, Go.binOp, Op.intArith, ofPure, pure]
@[simp] theorem bin_mul : aBinC T .mul t (.int k a) (.int k b) c = some (.int k (k.wrap (a * b))) := by simp [aBinC, aBin, Go.binOp, Op.intArith, ofPure, pure]
@[simp] theorem bin_eql : aBinC T .eql t (.int k a) (.int k b) c = some (.bool (decide (a = b))) := by simp [aBinC, aBin, Go.binOp, Op.intCmp, ofPure, pure]; rfl
@[simp] theorem bin_neq : aBinC T .neq t (.int k a) (.int k b) c = some (.bool (decide (a ≠ b))) := by simp [aBinC, aBin, Go.binOp, Op.intCmp, ofPure, pure, bne]; rfl
@[simp] theorem bin_lss : aBinC T .lss t (.int k a) (.int k b) c = some (.bool (decide (a < b))) := by simp [aBinC, aBin, Go.binOp, Op.intCmp, ofPure, pure]
@[simp] theorem bin_leq : aBinC T .leq t (.int k a) (.int k b) c = some (.bool (decide (a ≤ b))) := by simp [aBinC, aBin, Go.binOp, Op.intCmp, ofPure, pure]
@[simp] theorem bin_gtr : aBinC T .gtr t (.int k a) (.int k b) c = some (.bool (decide (b < a))) := by simp [aBinC, aBin, Go.binOp, Op.intCmp, ofPure, pure]
@[simp] theorem bin_geq : aBinC T .geq t (.int k a) (.int k b) c = some (.bool (decide (b ≤ a))) := by simp [aBinC, aBin, Go.binOp, Op.intCmp, ofPure, pure]
theorem bin_quo (hb : b ≠ 0) : aBinC T .quo t (.int k a) (.int k b) c = some (.int k (k.wrap (a.tdiv b))) := by simp [aBinC, aBin, Go.binOp, Op.intDiv, ofPure, pure, hb]
@[simp] theorem un_not (b : Bool) : aUn .not (.bool b) = some (.bool (!b)) := rfl
end ints

theorem wrap_i64 {n : Int} (h1 : -9223372036854775808 ≤ n) (h2 : n < 9223372036854775808) : IntKind.i64.wrap n = n := by
  unfold IntKind.wrap
  simp only [show IntKind.i64.bits = 64 from rfl, show IntKind.i64.signed = true from rfl, Bool.true_and]
  rcases Int.lt_or_le n 0 with h | h
  · have e : n % 2 ^ 64 = n + 18446744073709551616 := by omega
    rw [e]
    have : (decide (n + 18446744073709551616 ≥ (2 ^ (64 - 1) : Int))) = true := by simp; omega
    simp only [this, if_true]
    omega
  · have e : n % 2 ^ 64 = n := by omega
    rw [e]
    have : (decide (n ≥ (2 ^ (64 - 1) : Int))) = false := by simp; omega
    simp only [this]
    simp

theorem wrap_u32 (n : Int) : IntKind.u32.wrap n = n % 4294967296 := by
  unfold IntKind.wrap
  simp only [show IntKind.u32.bits = 32 from rfl, show IntKind.u32.signed = false from rfl, Bool.false_and]
  simp
theorem wrap_u8 (n : Int) : IntKind.u8.wrap n = n % 256 := by
  unfold IntKind.wrap
  simp only [show IntKind.u8.bits = 8 from rfl, show IntKind.u8.signed = false from rfl, Bool.false_and]
  simp
theorem wrap_u16 (n : Int) : IntKind.u16.wrap n = n % 65536 := by
  unfold IntKind.wrap
  simp only [show IntKind.u16.bits = 16 from rfl, show IntKind.u16.signed = false from rfl, Bool.false_and]
  simp
theorem wrap_u64 (n : Int) : IntKind.u64.wrap n = n % 18446744073709551616 := by
  unfold IntKind.wrap
  simp only [show IntKind.u64.bits = 64 from rfl, show IntKind.u64.signed = false from rfl, Bool.false_and]
  simp

section u32
variable (T : Tab) (t : Ty) (a b : BitVec 32) (c : Bool)
theorem u32_lit (n : Nat) (hn : n < 4294967296) : AV.int .u32 n = U32 (BitVec.ofNat 32 n) := by
  unfold U32
  rw [BitVec.toNat_ofNat, Nat.mod_eq_of_lt (by simpa using hn)]
theorem ofInt_toNat32 (a : BitVec 32) : BitVec.ofInt 32 (a.toNat : Int) = a := by simp
theorem wrap_toNat32 (r : BitVec 32) : IntKind.u32.wrap (r.toNat : Int) = r.toNat := by
  rw [wrap_u32]; have := r.isLt; omega
@[simp] theorem u32_xor : aBinC T .xor t (U32 a) (U32 b) c = some (U32 (a ^^^ b)) := by
  have e : Go.binOp .xor t (.int .u32 a.toNat) (.int .u32 b.toNat) = pure (.int .u32 (IntKind.u32.wrap ((BitVec.ofInt 32 (a.toNat : Int) ^^^ BitVec.ofInt 32 (b.toNat : Int)).toNat : Int))) := rfl
  simp only [aBinC, aBin, U32, e, ofInt_toNat32, wrap_toNat32]
  rfl
@[simp] theorem u32_and : aBinC T .and t (U32 a) (U32 b) c = some (U32 (a &&& b)) := by
  have e : Go.binOp .and t (.int .u32 a.toNat) (.int .u32 b.toNat) = pure (.int .u32 (IntKind.u32.wrap ((BitVec.ofInt 32 (a.toNat : Int) &&& BitVec.ofInt 32 (b.toNat : Int)).toNat : Int))) := rfl
  simp only [aBinC, aBin, U32, e, ofInt_toNat32, wrap_toNat32]
  rfl
@[simp] theorem u32_or : aBinC T .or t (U32 a) (U32 b) c = some (U32 (a ||| b)) := by
  have e : Go.binOp .or t (.int .u32 a.toNat) (.int .u32 b.toNat) = pure (.int .u32 (IntKind.u32.wrap ((BitVec.ofInt 32 (a.toNat : Int) ||| BitVec.ofInt 32 (b.toNat : Int)).toNat : Int))) := rfl
  simp only [aBinC, aBin, U32, e, ofInt_toNat32, wrap_toNat32]
  rfl
@[simp] theorem u32_mul : aBinC T .mul t (U32 a) (U32 b) c = some (U32 (a * b)) := by
  simp [aBinC, aBin, U32, Go.binOp, Op.intArith, ofPure, pure, wrap_u32, BitVec.toNat_mul]
theorem u32_shr (n : Nat) (hn : n ≤ 32) : aBinC T .shr t (U32 a) (.int .u64 n) c = some (U32 (a >>> n)) := by
  have e : Go.binOp .shr t (.int .u32 a.toNat) (.int .u64 n) = pure (.int .u32 ((a.toNat : Int) / 2 ^ n)) := by
    have := Go.shift_shr .u32 .u64 (a.toNat : Int) (n : Int) (by omega) (by have : IntKind.u32.bits = 32 := rfl; omega)
    rw [Int.toNat_natCast] at this
    exact this
  simp only [aBinC, aBin, U32, e, BitVec.toNat_ushiftRight, Nat.shiftRight_eq_div_pow]
  simp [ofPure, pure]
theorem u32_shl (n : Nat) (hn : n ≤ 32) : aBinC T .shl t (U32 a) (.int .u64 n) c = some (U32 (a <<< n)) := by
  have e : Go.binOp .shl t (.int .u32 a.toNat) (.int .u64 n) = pure (.int .u32 (IntKind.u32.wrap ((a.toNat : Int) * 2 ^ n))) := by
    have := Go.shift_shl .u32 .u64 (a.toNat : Int) (n : Int) (by omega) (by have : IntKind.u32.bits = 32 := rfl; omega)
    rw [Int.toNat_natCast] at this
    exact this
  simp only [aBinC, aBin, U32, e, BitVec.toNat_shiftLeft, Nat.shiftLeft_eq, wrap_u32]
  simp [ofPure, pure]
@[simp] theorem u32_eql : aBinC T .eql t (U32 a) (U32 b) c = some (.bool (decide (a = b))) := by
  simp only [U32, bin_eql, Int.natCast_inj, BitVec.toNat_inj]
@[simp] theorem u32_neq : aBinC T .neq t (U32 a) (U32 b) c = some (.bool (decide (a ≠ b))) := by
  simp only [U32, bin_neq, ne_eq, Int.natCast_inj, BitVec.toNat_inj]
@[simp] theorem u32_not : aUn .xor (U32 a) = some (U32 (~~~ a)) := by
  have e : Op.unary .xor (.int .u32 a.toNat) = pure (.int .u32 (IntKind.u32.wrap ((BitVec.ofInt 32 (4294967295 : Int) ^^^ BitVec.ofInt 32 (a.toNat : Int)).toNat : Int))) := rfl
  have e2 : BitVec.ofInt 32 (4294967295 : Int) ^^^ a = ~~~ a := by
    have : BitVec.ofInt 32 (4294967295 : Int) = BitVec.allOnes 32 := by decide
    rw [this, BitVec.allOnes_xor]
  simp only [aUn, U32, e, ofInt_toNat32, wrap_toNat32, e2]
  rfl
end u32

section conv
variable (h : Heap)
@[simp] theorem conv_8_32 (b : UInt8) : aConv tab 5 105 (U8 b) h = some (U32 (b.toBitVec.setWidth 32)) := by
  simp [aConv, U8, U32, wrap_u32]
  have := b.toNat_lt
  omega
theorem conv_32_8 (v : BitVec 32) : aConv tab 105 5 (U32 v) h = some (U8 (UInt8.ofBitVec (v.setWidth 8))) := by
  simp [aConv, U8, U32, wrap_u8]
theorem conv_64_32 (n : Int) : aConv tab 3 105 (.int .i64 n) h = some (U32 (BitVec.ofInt 32 n)) := by
  simp [aConv, U32, wrap_u32]
  omega
theorem conv_32_64 (v : BitVec 32) : aConv tab 105 3 (U32 v) h = some (.int .i64 v.toNat) := by
  simp [aConv, U32]
  have := v.isLt
  exact wrap_i64 (by omega) (by omega)
end conv

section sl
variable (e : Ty) (l : List AV) (k : Tok) (h : Heap)
@[simp] theorem len_nils22 : aLen tab 22 .nils = some (.int .i64 0) := by simp [aLen]
@[simp] theorem len22 : aLen tab 22 (.vsl e l k) = some (.int .i64 l.length) := by simp [aLen]
@[simp] theorem len30 : aLen tab 30 (.vsl e l k) = some (.int .i64 l.length) := by simp [aLen]
@[simp] theorem len_nils30 : aLen tab 30 .nils = some (.int .i64 0) := by simp [aLen]
theorem idx22 (i : Nat) (kd : IntKind) : aIndexAddr tab 22 (.vsl 5 l k) (.int kd (i : Int)) = (l[i]?).map (.vptr 5) := by
  simp [aIndexAddr]
theorem idx30 (i : Nat) (kd : IntKind) : aIndexAddr tab 30 (.vsl 22 l k) (.int kd (i : Int)) = (l[i]?).map (.vptr 22) := by
  simp [aIndexAddr]
@[simp] theorem load5 (v : AV) : aLoad tab 5 (.vptr 5 v) h = some v := by simp [aLoad]
@[simp] theorem load22 (v : AV) : aLoad tab 22 (.vptr 22 v) h = some v := by simp [aLoad]
end sl

/-! ### Code, piece by piece -/
def seqE (x : List AV → Heap → Option β) (k : Ex → List AV → Heap → Option β) : Ex → List AV → Heap → Option β
  | .normal, tm, h => x tm h
  | .exit id, tm, h => k (.exit id) tm h
  | .ret, tm, h => k .ret tm h
def blkE (id : Nat) (k : Ex → List AV → Heap → Option β) : Ex → List AV → Heap → Option β
  | .normal, tm, h => k .normal tm h
  | .exit id', tm, h => if id' = id then k .normal tm h else k (.exit id') tm h
  | .ret, tm, h => k .ret tm h

section code
variable (C : Cfg) (call : CallF) (md : Bool) (f n id i : Nat) (a b c : Code) (k : Ex → List AV → Heap → Option β) (tm : List AV) (h : Heap) (o : Operand)
@[simp] theorem runK_seq : runK C call md f n (.seq a b) k tm h = runK C call md f n a (seqE (runK C call md f n b k) k) tm h := by
  simp only [runK]; congr 1; funext ex tm h; cases ex <;> rfl
@[simp] theorem runK_cond : runK C call md f n (.cond o a b) k tm h = onB (evalA tm o) (runK C call md f n a k tm h) (runK C call md f n b k tm h) := rfl
@[simp] theorem runK_block : runK C call md f n (.block id c) k tm h = runK C call md f n c (blkE id k) tm h := by
  simp only [runK]; congr 1; funext ex tm h; cases ex <;> rfl
@[simp] theorem runK_loop : runK C call md f n (.loop c) k tm h = loopK (fun next => runK C call md f n c (seqE next k)) n tm h := by
  simp only [runK]; congr 1; funext next; congr 1; funext ex tm h; cases ex <;> rfl
@[simp] theorem runK_skip : runK C call md f n .skip k tm h = k .normal tm h := rfl
@[simp] theorem runK_ret : runK C call md f n .ret k tm h = k .ret tm h := rfl
@[simp] theorem runK_exit : runK C call md f n (.exit id) k tm h = k (.exit id) tm h := rfl
variable (x : List AV → Heap → Option β)
@[simp] theorem seqE_n : seqE x k .normal tm h = x tm h := rfl
@[simp] theorem seqE_e : seqE x k (.exit id) tm h = k (.exit id) tm h := rfl
@[simp] theorem seqE_r : seqE x k .ret tm h = k .ret tm h := rfl
@[simp] theorem blkE_n : blkE id k .normal tm h = k .normal tm h := rfl
@[simp] theorem blkE_e : blkE id k (.exit id) tm h = k .normal tm h := by simp [blkE]
theorem blkE_o (hi : i ≠ id) : blkE id k (.exit i) tm h = k (.exit i) tm h := by simp [blkE, hi]
@[simp] theorem blkE_r : blkE id k .ret tm h = k .ret tm h := rfl
@[simp] theorem retK_n (rs : List Nat) : retK rs .normal tm h = some (results rs tm, h) := rfl
@[simp] theorem retK_r (rs : List Nat) : retK rs .ret tm h = some (results rs tm, h) := rfl
theorem loopK_succ (step : (List AV → Heap → Option β) → List AV → Heap → Option β) (m : Nat) : loopK step (m + 1) tm h = step (loopK step m) tm h := rfl
end code

/-- Reading a slot. -/
theorem st_ev (n : Nat) (l : List (Nat × AV)) (j : Nat) (v : AV) (hj : j < n) (hl : l.lookup j = some v) : evalA (st n l) (.tmp j) = v := by
  rw [st_tmp, if_pos hj, hl]; rfl

theorem results1 (n : Nat) (l : List (Nat × AV)) (j : Nat) : results [j] (st n l) = if j < n then (l.lookup j).getD .undef else .undef := st_getD n l j
theorem results2 (n : Nat) (l : List (Nat × AV)) (i j : Nat) : results [i, j] (st n l) = .tuple [if i < n then (l.lookup i).getD .undef else .undef, if j < n then (l.lookup j).getD .undef else .undef] := by
  simp only [results, List.map_cons, List.map_nil, st_getD]

/-- Objects that may change. -/
abbrev Obs := Nat → Prop
/-- A set that holds all that is still to be made. -/
def Up (S : Obs) (h : Heap) : Prop := ∀ i, h.length ≤ i → S i
def From (n : Nat) : Obs := fun i => n ≤ i
/-- Only objects of S change; none goes. -/
def Keep (S : Obs) (h h' : Heap) : Prop := h.length ≤ h'.length ∧ ∀ i, ¬ S i → h'[i]? = h[i]?

theorem Keep.refl (S : Obs) (h : Heap) : Keep S h h := ⟨Nat.le_refl _, fun _ _ => rfl⟩
theorem Keep.trans {S : Obs} {h h' h'' : Heap} (a : Keep S h h') (b : Keep S h' h'') : Keep S h h'' := ⟨Nat.le_trans a.1 b.1, fun i hi => (b.2 i hi).trans (a.2 i hi)⟩
theorem Keep.mono {S U : Obs} {h h' : Heap} (a : Keep S h h') (hs : ∀ i, S i → U i) : Keep U h h' := ⟨a.1, fun i hi => a.2 i fun x => hi (hs i x)⟩
theorem Keep.app {S : Obs} (h e : Heap) (up : Up S h) : Keep S h (h ++ e) := ⟨by simp, fun i hi => List.getElem?_append_left (Nat.lt_of_not_le fun x => hi (up i x))⟩
theorem Keep.set {S : Obs} (h : Heap) {r : Nat} (ob : Obj) (hs : S r) : Keep S h (h.set r ob) := ⟨by simp, fun i hi => List.getElem?_set_ne (by rintro rfl; exact hi hs)⟩
theorem Up.keep {S U : Obs} {h h' : Heap} (a : Up S h) (k : Keep U h h') : Up S h' := fun i hi => a i (Nat.le_trans k.1 hi)
theorem Up.fresh (h : Heap) : Up (From h.length) h := fun _ hi => hi
theorem Keep.up {S : Obs} {h h' : Heap} (k : Keep (From h.length) h h') (up : Up S h) : Keep S h h' := k.mono fun i hi => up i hi
theorem Keep.fresh {S : Obs} {h h' h'' : Heap} (a : Keep S h h') (k : Keep (From h'.length) h' h'') (up : Up S h) : Keep S h h'' := a.trans (k.up (up.keep a))

/-- A slice to append to, with the elements l: whose tail is its own, an object of S. -/
def Ap (e : Ty) (S : Obs) (h : Heap) (x : AV) (l : List AV) : Prop :=
  (x = .nils ∧ l = []) ∨ (∃ k, x = .vsl e l k ∧ (k = .exact ∨ ∃ r g, k = .own r g ∧ S r ∧ h[r]? = some (.tok g)))

theorem Ap.mono {e : Ty} {S U : Obs} {h : Heap} {x : AV} {l : List AV} (a : Ap e S h x l) (hs : ∀ i, S i → U i) : Ap e U h x l := by
  rcases a with a | ⟨kk, hx, a | ⟨r, g, hk, hr, hg⟩⟩
  · exact .inl a
  · exact .inr ⟨kk, hx, .inl a⟩
  · exact .inr ⟨kk, hx, .inr ⟨r, g, hk, hs r hr, hg⟩⟩

theorem Ap.keep {e : Ty} {S U : Obs} {h h' : Heap} {x : AV} {l : List AV} (a : Ap e S h x l) (k : Keep U h h') (hd : ∀ i, i < h.length → S i → ¬ U i) : Ap e S h' x l := by
  rcases a with a | ⟨kk, hx, a | ⟨r, g, hk, hr, hg⟩⟩
  · exact .inl a
  · exact .inr ⟨kk, hx, .inl a⟩
  · exact .inr ⟨kk, hx, .inr ⟨r, g, hk, hr, by rw [k.2 r (hd r (List.getElem?_eq_some_iff.1 hg).1 hr)]; exact hg⟩⟩

theorem Ap.fresh {e : Ty} {S : Obs} {h h' : Heap} {x : AV} {l : List AV} (a : Ap e S h x l) (k : Keep (From h.length) h h') : Ap e S h' x l := a.keep k fun _ hi _ hj => Nat.not_le.2 hi hj

/-- Only one object, that is no tail, has changed. -/
theorem Ap.at {e : Ty} {S : Obs} {h h' : Heap} {x : AV} {l : List AV} {p : Nat} {ob : Obj} (a : Ap e S h x l) (hp : h[p]? = some ob) (ho : ∀ g, ob ≠ .tok g) (hk : ∀ i, i < h.length → i ≠ p → h'[i]? = h[i]?) : Ap e S h' x l := by
  rcases a with a | ⟨kk, hx, a | ⟨r, g, hk', hr, hg⟩⟩
  · exact .inl a
  · exact .inr ⟨kk, hx, .inl a⟩
  · refine .inr ⟨kk, hx, .inr ⟨r, g, hk', hr, ?_⟩⟩
    rw [hk r (List.getElem?_eq_some_iff.1 hg).1 (fun e => ?_)]
    · exact hg
    · subst e
      rw [hp] at hg
      cases hg
      exact ho g rfl

/-- Objects that are no tails stay. -/
def NoTok (h h' : Heap) : Prop := ∀ (i : Nat) (ob : Obj), h[i]? = some ob → (∀ g, ob ≠ .tok g) → h'[i]? = some ob
theorem NoTok.app (h e : Heap) : NoTok h (h ++ e) := fun i ob hi _ => by
  rw [List.getElem?_append_left (List.getElem?_eq_some_iff.1 hi).1]; exact hi
theorem NoTok.set {h : Heap} {r g : Nat} (hr : h[r]? = some (.tok g)) (x : Obj) : NoTok h (h.set r x) := fun i ob hi ho => by
  rw [List.getElem?_set_ne]
  · exact hi
  · rintro rfl
    rw [hr] at hi
    cases hi
    exact ho _ rfl

theorem Ap.append {T : Tab} {e : Ty} {S : Obs} {h : Heap} {x : AV} {l new : List AV} (a : Ap (T.und e) S h x l) (up : Up S h) (hne : new ≠ []) (hz : (zero T e).isSome = true)
    (hb : (l.length + new.length) * T.bytes e ≤ 2 ^ 47) (hl : l.length + new.length < 2 ^ 61) (hs : 0 < T.size e) :
    ∃ x' h' k, aAppend T e false x new h = some (x', h') ∧ x' = .vsl (T.und e) (l ++ new) k ∧ Ap (T.und e) S h' x' (l ++ new) ∧ Keep S h h' ∧ NoTok h h' := by
  cases new with
  | nil => exact absurd rfl hne
  | cons y ys =>
    rcases a with ⟨rfl, rfl⟩ | ⟨kk, rfl, rfl | ⟨r, g, rfl, hr, hg⟩⟩
    · simp only [List.length_nil, Nat.zero_add] at hb hl
      refine ⟨.vsl (T.und e) (y :: ys) (.own h.length 0), h ++ [.tok 0], _, ?_, rfl, .inr ⟨_, rfl, .inr ⟨_, _, rfl, up _ (Nat.le_refl _), by simp⟩⟩, Keep.app h _ up, NoTok.app _ _⟩
      simp only [aAppend]
      rw [if_pos ⟨hb, hl, hz⟩]
      rfl
    · refine ⟨.vsl (T.und e) (l ++ y :: ys) (.own h.length 0), h ++ [.tok 0], _, ?_, rfl, .inr ⟨_, rfl, .inr ⟨_, _, rfl, up _ (Nat.le_refl _), by simp⟩⟩, Keep.app h _ up, NoTok.app _ _⟩
      simp only [aAppend]
      rw [if_pos ⟨trivial, hb, hl, hs, hz⟩]
      rfl
    · have hlt : r < h.length := (List.getElem?_eq_some_iff.1 hg).1
      refine ⟨.vsl (T.und e) (l ++ y :: ys) (.own r (g + 1)), h.set r (.tok (g + 1)), _, ?_, rfl, .inr ⟨_, rfl, .inr ⟨_, _, rfl, hr, by simp [hlt]⟩⟩, Keep.set h _ hr, NoTok.set hg _⟩
      simp only [aAppend]
      rw [if_pos ⟨trivial, hb, hl, hs, hz⟩]
      simp only [hg]
      rw [if_pos trivial]

theorem aCall_fn (call : CallF) (md : Bool) (g : FuncId) (args : List AV) (h : Heap) : aCall call md (.fn (.func g) []) args h = call md g args h := by
  simp [aCall]
end Go.Ax
